/- The walk of WireReads: what any bytes are read as, and where something is amiss. -/
import Derived.Test.YtadiedcnkookhaaDoorWireF
import Derived.Test.YtadiedcnkookhaaDoorPlan
namespace Go.Proofs.YtadiedcnkookhaaDoor
set_option linter.unusedVariables false
set_option linter.unusedSimpArgs false
open Go.RowKit Go.Lib

theorem pick_any (c : Int) (h0 : -9223372036854775808 ≤ c) (h1 : c ≤ 9223372036854775807) : ∃ k : Int, ∀ w, Calls Tryd.prog 19 #[.int .i64 c, .int .i64 3] w fun e w' => e = .returned (.int .i64 k) ∧ w' = w := by
  by_cases hc : c < 0
  · refine ⟨-((c + 1).tmod 3), fun w => ?_⟩
    go_enter Tryd.func19, Tryd.ntmps19
    go_wp2
    go_ret
    exact ⟨rfl, rfl⟩
  · refine ⟨c % 3, fun w => ?_⟩
    go_enter Tryd.func19, Tryd.ntmps19
    go_wp2
    go_ret
    exact ⟨rfl, rfl⟩

def askCells (qs : List (Int × Int)) : List Value := qs.flatMap fun q => [.int .i64 q.1, .int .i64 q.2]
theorem askCells_at : ∀ (qs : List (Int × Int)) (i : Nat) (q : Int × Int), qs[i]? = some q → (askCells qs)[i * 2]? = some (.int .i64 q.1) ∧ (askCells qs)[i * 2 + 1]? = some (.int .i64 q.2)
  | [], i, q, h => by simp at h
  | x :: r, 0, q, h => by simp at h; subst h; exact ⟨rfl, rfl⟩
  | x :: r, i + 1, q, h => by
    have := askCells_at r i q (by simpa using h)
    rw [show (i + 1) * 2 = i * 2 + 1 + 1 by omega]
    exact this

set_option maxHeartbeats 8000000 in
set_option maxRecDepth 100000 in
theorem wireReads_walk (A : Option Addr) (c : Nat) (l : List UInt8) (B : Option Addr) (cb : Nat) (qs : List (Int × Int)) (w : World) (hg : ErrVar w) (hr : Rd w (fun k => k < w.heap.size) A (u8s l)) (hc : l.length ≤ c)
    (hq : Rd w (fun k => k < w.heap.size) B (askCells qs)) (hqc : qs.length ≤ cb)
    (hqb : ∀ q ∈ qs, (-9223372036854775808 ≤ q.1 ∧ q.1 ≤ 9223372036854775807) ∧ (-9223372036854775808 ≤ q.2 ∧ q.2 ≤ 9223372036854775807)) :
    Calls Tryd.prog 4 #[.slice A l.length c, .slice B qs.length cb] w fun e w' => e = .returned (.bool true) ∧ Kp No w w' := by
  have U := As.mk (up06 w hg)
  have G := As.mk hg
  have HR := As.mk hr
  have HQ := As.mk hq
  have HB := As.mk hqb
  clear hr hg hq hqb
  by_cases hm : l.length ≤ 3000
  case neg =>
    have hm' : (3000 : Int) < (l.length : Int) := by omega
    go_enter Tryd.func4, Tryd.ntmps4
    go_wp2_with (first
      | (go_at_call 11; go_must (refine U.out.mono ?_; rintro e w1 ⟨rfl, hk⟩; have K1 := As.mk hk; clear hk U)))
    go_ret
    exact ⟨rfl, K1.out⟩
  by_cases hs : qs.length ≤ 100
  case neg =>
    have hm' : ¬ (3000 : Int) < (l.length : Int) := by omega
    have hs' : (100 : Int) < (qs.length : Int) := by omega
    go_enter Tryd.func4, Tryd.ntmps4
    go_wp2_with (first
      | (go_at_call 11; go_must (refine U.out.mono ?_; rintro e w1 ⟨rfl, hk⟩; have K1 := As.mk hk; clear hk U)))
    go_ret
    exact ⟨rfl, K1.out⟩
  have hm' : ¬ (3000 : Int) < (l.length : Int) := by omega
  have hs' : ¬ (100 : Int) < (qs.length : Int) := by omega
  go_enter Tryd.func4, Tryd.ntmps4
  go_wp2_with (first
    | (go_at_call 11; go_must (refine U.out.mono ?_; rintro e w1 ⟨rfl, hk⟩; have K1 := As.mk hk; clear hk U))
    | (go_at_call 18; go_must (
        refine (read_any _ A c l _ (HR.out.keep K1.out) (fun k hk => Nat.lt_of_lt_of_le hk K1.out.size) (by omega) hc).mono ?_
        rintro e w2 ⟨rfl, hi, hk, hs2⟩
        obtain ⟨g, hg⟩ : ∃ g, g = w1.heap.size := ⟨_, rfl⟩
        rw [← hg] at hi
        rw [← hg]
        have S1 := As.mk (And.intro (show w.heap.size ≤ g from hg ▸ K1.out.size) (show w2.heap.size = g + 1 by omega))
        have I1 := As.mk hi
        have K2 := As.mk (K1.out.then_ hk)
        clear hi hk hs2 K1 hg)))
  have S2 := As.mk (show w2.heap.size = g + 1 from S1.out.2)
  have J1 : As (IsR 81 (w2.alloc (.cells #[.slice A l.length c, .int .i64 0, .bool false, .int .i64 0] 37)) g (fun k => k < w.heap.size) l ⟨0, none⟩) := ⟨I1.out.keep ((Kp.refl _ _).alloc _)⟩
  obtain ⟨gm, hgm⟩ : ∃ gm, gm = w2.heap.size := ⟨_, rfl⟩
  have M1 : As (IsR 37 (w2.alloc (.cells #[.slice A l.length c, .int .i64 0, .bool false, .int .i64 0] 37)) gm (fun k => k < w.heap.size) l ⟨0, none⟩) :=
    ⟨A, c, 0, 0, hgm ▸ blk_new _ _ _, HR.out.keep (K2.out.alloc _), fun h => by have := S1.out; omega, by omega, hc, fun _ => ⟨rfl, Nat.zero_le _⟩, (fun q h => by cases h)⟩
  have K3 := As.mk (K2.out.alloc (.cells #[.slice A l.length c, .int .i64 0, .bool false, .int .i64 0] 37))
  have SG := As.mk (show w.heap.size ≤ g ∧ gm = g + 1 by have := S1.out; omega)
  rw [← hgm]
  generalize w2.alloc (.cells #[.slice A l.length c, .int .i64 0, .bool false, .int .i64 0] 37) = w3 at *
  clear I1 K2 S2 S1 hgm
  go_loopw [8] (fun n wr => ∃ (i : Nat) (s : St), n = .int .i64 (i : Int) ∧ i ≤ qs.length ∧ As (IsR 81 wr g (fun k => k < w.heap.size) l s) ∧ As (IsR 37 wr gm (fun k => k < w.heap.size) l s) ∧ As (Kp No w wr)) (fun n _ => (qs.length - intOf n).toNat)
  case atStart => exact ⟨0, ⟨0, none⟩, rfl, Nat.zero_le _, J1, M1, K3⟩
  case round =>
    clear J1 M1 K3
    obtain ⟨i, s, rfl, hi, I, M, K⟩ := hrel
    by_cases hlt : (i : Int) < (qs.length : Int)
    · obtain ⟨⟨x, y⟩, hxy⟩ : ∃ q, qs[i]? = some q := ⟨_, List.getElem?_eq_getElem (by omega)⟩
      obtain ⟨hx, hy⟩ := HB.out _ (List.mem_of_getElem? hxy)
      obtain ⟨kk, hkk⟩ := pick_any x hx.1 hx.2
      have PK := As.mk hkk
      obtain ⟨hq1, hq2⟩ := askCells_at qs i _ hxy
      obtain ⟨ad, rfl, hfb, hc1⟩ := (HQ.out.keep K.out).at_ hq1
      have FB := As.mk (show ad.block < w.heap.size from hfb)
      clear hfb
      obtain ⟨ad2, had, _, hc2⟩ := (HQ.out.keep K.out).at_ hq2
      obtain rfl := Option.some.inj had
      clear had hkk hq1 hq2
      simp only at hc1 hc2
      obtain ⟨ab, ao, sp⟩ := ad
      obtain rfl : sp = none := by
        obtain ⟨ad3, h3, _, hc3⟩ := (HQ.out.keep K.out).at_ (askCells_at qs 0 _ (List.getElem?_eq_getElem (by omega))).1
        obtain rfl := Option.some.inj h3
        simpa [Addr.add] using World.cell?_spot hc3
      rw [add_plain'] at hc1 hc2
      rw [← Nat.add_assoc] at hc2
      rcases (by omega : kk = 0 ∨ (¬ kk = 0 ∧ kk = 1) ∨ (¬ kk = 0 ∧ ¬ kk = 1)) with rfl | ⟨hk0, rfl⟩ | ⟨hk0, hk1⟩
      · go_wp2_with (first
        | (go_at_call 19; go_must (refine (PK.out _).mono ?_; rintro e w4 ⟨rfl, rfl⟩))
        | (go_at_call 20; go_must (
            refine (rnum_any _ _ _ _ _ I.out).mono ?_
            rintro e w5 ⟨rfl, hi5, hk5⟩
            have I5 := As.mk hi5
            have M5 := As.mk (M.out.kp hk5 (fun h => by have := SG.out; unfold Is at h; omega) (fun k hk h => by have := SG.out; unfold Is at h; omega))
            have K5 := As.mk (K.out.trans hk5 (fun k hk h => by have := SG.out; unfold Is at h; omega))
            clear hi5 hk5 I M K))
        | (go_at_call 21; go_must (
            refine (mnum_any _ _ _ _ _ M5.out).mono ?_
            rintro e w6 ⟨rfl, hi6, hk6⟩
            have M6 := As.mk hi6
            have I6 := As.mk (I5.out.kp hk6 (fun h => by have := SG.out; unfold Is at h; omega) (fun k hk h => by have := SG.out; unfold Is at h; omega))
            have K6 := As.mk (K5.out.trans hk6 (fun k hk h => by have := SG.out; unfold Is at h; omega))
            clear hi6 hk6 I5 M5 K5)))
        go_roundw
        case rel => exact ⟨i + 1, (rNum l s).2, by go_num, by omega, I6, M6, K6⟩
        case measure => simp [intOf]; omega
      · go_wp2_with (first
        | (go_at_call 19; go_must (refine (PK.out _).mono ?_; rintro e w4 ⟨rfl, rfl⟩))
        | (go_at_call 22; go_must (
            refine (rwhole_any _ _ _ _ _ I.out).mono ?_
            rintro e w5 ⟨rfl, hi5, hk5⟩
            have I5 := As.mk hi5
            have M5 := As.mk (M.out.kp hk5 (fun h => by have := SG.out; unfold Is at h; omega) (fun k hk h => by have := SG.out; unfold Is at h; omega))
            have K5 := As.mk (K.out.trans hk5 (fun k hk h => by have := SG.out; unfold Is at h; omega))
            clear hi5 hk5 I M K))
        | (go_at_call 23; go_must (
            refine (mwhole_any _ _ _ _ _ M5.out).mono ?_
            rintro e w6 ⟨rfl, hi6, hk6⟩
            have M6 := As.mk hi6
            have I6 := As.mk (I5.out.kp hk6 (fun h => by have := SG.out; unfold Is at h; omega) (fun k hk h => by have := SG.out; unfold Is at h; omega))
            have K6 := As.mk (K5.out.trans hk6 (fun k hk h => by have := SG.out; unfold Is at h; omega))
            clear hi6 hk6 I5 M5 K5)))
        go_roundw
        case rel => exact ⟨i + 1, (rNum l s).2, by go_num, by omega, I6, M6, K6⟩
        case measure => simp [intOf]; omega
      · go_wp2_with (first
        | (go_at_call 19; go_must (refine (PK.out _).mono ?_; rintro e w4 ⟨rfl, rfl⟩)))
        refine wp_region_plan_at [0, 1, 2, 3, 4, 5, 7, 8, 9, 10, 11, 12, 6, 13, 14] (fun w' => w'.cell? ⟨ab, ao + i * 2 + 1, none⟩ = some (.int .i64 y)) (by kernel_rfl) (by rfl) ?_
        have hS : w4.drew.cell? ⟨ab, ao + i * 2 + 1, none⟩ = some (.int .i64 y) := hc2
        replace I := As.mk (I.out.keep ((Kp.refl _ _).drew))
        replace M := As.mk (M.out.keep ((Kp.refl _ _).drew))
        replace K := As.mk (K.out.drew)
        revert hS I M K
        generalize w4.drew = w7
        intro hS I M K
        simp only [permOf, List.getElem?_cons_zero, List.getElem?_cons_succ, List.size_toArray, List.length_cons, List.length_nil, Nat.reduceAdd, Array.replicate, List.replicate]
        repeat
          refine plan_take (v := ?_) rfl (by kernel_rfl) (by rfl) hS ?_ ?_
          rotate_left 1
          · intro w hSw; go_simp
            try with_reducible rfl
          simp only [Act.put, List.setIfInBounds_toArray, List.set_cons_zero, List.set_cons_succ]
        refine plan_do rfl (by kernel_rfl) (by rfl) (fun KK hKK => ?_)
        go_simp
        go_at_call 24
        refine (rtext_any _ _ _ _ _ _ I.out hy.2).mono ?_
        rintro e w5 ⟨rfl, hi5, hk5⟩
        have I5 := As.mk hi5
        have M5 := As.mk (M.out.kp hk5 (fun h => by have := SG.out; unfold Is at h; omega) (fun k hk h => by have := SG.out; unfold Is at h; omega))
        have K5 := As.mk (K.out.trans hk5 (fun k hk h => by have := SG.out; unfold Is at h; omega))
        replace hS := hk5.cell hS (fun h => by have := SG.out; have := FB.out; simp only [Is] at h; omega)
        clear hi5 hk5 I M K
        refine hKK.out _ _ hS ?_
        clear KK hKK
        simp only [Act.put, List.setIfInBounds_toArray, List.set_cons_zero, List.set_cons_succ]
        refine plan_do rfl (by kernel_rfl) (by rfl) (fun KK hKK => ?_)
        go_simp
        go_at_call 25
        refine (mtext_any _ _ _ _ _ _ M5.out hy.2).mono ?_
        rintro e w6 ⟨rfl, hi6, hk6⟩
        have M6 := As.mk hi6
        have I6 := As.mk (I5.out.kp hk6 (fun h => by have := SG.out; unfold Is at h; omega) (fun k hk h => by have := SG.out; unfold Is at h; omega))
        have K6 := As.mk (K5.out.trans hk6 (fun k hk h => by have := SG.out; unfold Is at h; omega))
        replace hS := hk6.cell hS (fun h => by have := SG.out; have := FB.out; simp only [Is] at h; omega)
        clear hi6 hk6 I5 M5 K5
        refine hKK.out _ _ hS ?_
        clear KK hKK
        simp only [Act.put, List.setIfInBounds_toArray, List.set_cons_zero, List.set_cons_succ]
        refine plan_take (v := ?_) rfl (by kernel_rfl) (by rfl) hS ?_ ?_
        rotate_left 1
        · intro w hSw; go_simp
          try with_reducible rfl
        simp only [Act.put, List.setIfInBounds_toArray, List.set_cons_zero, List.set_cons_succ]
        refine plan_done (by kernel_rfl) (NoPanic.normal ?_)
        go_wp2
        go_roundw
        case rel => exact ⟨i + 1, (rText l y s).2, by go_num, by omega, I6, M6, K6⟩
        case measure => simp [intOf]; omega
    · cases hbad : (rEnd l s).bad with
      | none =>
        have hE := As.mk hbad
        clear hbad
        go_wp2_with (first
          | (go_at_call 26; go_must (
              refine (rend_any _ _ _ _ _ I.out).mono ?_
              rintro e w5 ⟨v, rfl, hv, hi5, hk5⟩
              rw [hE.out] at hv
              obtain rfl := hv
              have M5 := As.mk (M.out.kp hk5 (fun h => by have := SG.out; unfold Is at h; omega) (fun k hk h => by have := SG.out; unfold Is at h; omega))
              have K5 := As.mk (K.out.trans hk5 (fun k hk h => by have := SG.out; unfold Is at h; omega))
              clear hi5 hk5 I M K))
          | (go_at_call 27; go_must (
              refine (mend_any _ _ _ _ _ M5.out).mono ?_
              rw [hE.out]
              rintro e w6 ⟨rfl, hi6, hk6⟩
              have K6 := As.mk (K5.out.trans hk6 (fun k hk h => by have := SG.out; unfold Is at h; omega))
              clear hi6 hk6 M5 K5)))
        go_ret
        exact ⟨rfl, K6.out⟩
      | some q =>
        have hE := As.mk hbad
        have hEE : rEnd l (rEnd l s) = rEnd l s := by
          conv => lhs; rw [rEnd.eq_def]
          rw [hbad]
        have HEE := As.mk hEE
        clear hbad hEE
        go_wp2_with (first
          | (go_at_call 26; refine (rend_any _ _ _ _ _ I7.out).mono ?_; go_must (
              rw [HEE.out, hE.out]
              rintro e w8 ⟨v, rfl, ⟨b8, rfl, hb8⟩, hi8, hk8⟩
              have B8 := As.mk hb8
              have K8 := As.mk (K7.out.trans hk8 (fun k hk h => by have := SG.out; unfold Is at h; omega))
              clear hi8 hk8 hb8 I7 K7))
          | (go_at_call 28; refine (law00_Is b8 q 2 _ B8.out (G.out.keep K8.out)).mono ?_; go_must (
              rintro e w9 ⟨rfl, hk9⟩
              have K9 := As.mk (K8.out.then_ hk9)
              clear hk9 K8 B8))
          | (go_at_call 26; go_must (
              refine (rend_any _ _ _ _ _ I.out).mono ?_
              rintro e w5 ⟨v, rfl, hv, hi5, hk5⟩
              rw [hE.out] at hv
              obtain ⟨b, rfl, hb⟩ := hv
              have B5 := As.mk hb
              have I5 := As.mk hi5
              have M5 := As.mk (M.out.kp hk5 (fun h => by have := SG.out; unfold Is at h; omega) (fun k hk h => by have := SG.out; unfold Is at h; omega))
              have K5 := As.mk (K.out.trans hk5 (fun k hk h => by have := SG.out; unfold Is at h; omega))
              clear hi5 hk5 hb I M K))
          | (go_at_call 27; go_must (
              refine (mend_any _ _ _ _ _ M5.out).mono ?_
              rw [hE.out]
              rintro e w6 ⟨rfl, hi6, hk6⟩
              have B6 := As.mk (hk6.heap B5.out (fun h => by
                obtain ⟨A', c', a', p', hb', _⟩ := M5.out
                unfold Is at h
                subst h
                have := hb'.symm.trans B5.out
                simp at this))
              have I6 := As.mk (I5.out.kp hk6 (fun h => by have := SG.out; unfold Is at h; omega) (fun k hk h => by have := SG.out; unfold Is at h; omega))
              have K6 := As.mk (K5.out.trans hk6 (fun k hk h => by have := SG.out; unfold Is at h; omega))
              clear hi6 hk6 M5 K5 I5 B5))
          | (go_at_call 28; go_must (
              refine (law00_Is b q 2 _ B6.out (G.out.keep K6.out)).mono ?_
              rintro e w7 ⟨rfl, hk7⟩
              have I7 := As.mk (I6.out.keep hk7)
              have K7 := As.mk (K6.out.then_ hk7)
              clear hk7 I6 K6 B6)))
        go_ret
        exact ⟨rfl, K9.out⟩
end Go.Proofs.YtadiedcnkookhaaDoor
