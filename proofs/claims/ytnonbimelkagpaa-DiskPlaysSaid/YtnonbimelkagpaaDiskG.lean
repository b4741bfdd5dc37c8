/- The disk: Crash. -/
import Derived.Test.YtnonbimelkagpaaDiskF
import Derived.StillTailTactics
import Derived.BigRegion
namespace Go.Proofs.Ytnonbimelkagpaa
set_option linter.unusedVariables false
set_option linter.unusedSimpArgs false
open Go.RowKit Go.Lib

theorem crash_down (w : World) (d : Nat) (D : Nat → Prop) (room : Int) (E : List Ent) (h : IsDisk w d D room true E) (keep : Int) :
    Calls Try.prog 10 #[.pointer (some ⟨d, 0, none⟩), .int .i64 keep] w fun e w' => e = .returned (.tuple #[]) ∧ w' = w := by
  obtain ⟨mb, h1, h2, h3, hlt, h4, h5, h6, h7, h8, h9⟩ := h
  obtain ⟨c0, c1, c2, fz⟩ := blk3 h1
  clear h1 h2 h3 hlt h4 h5 h6 h7 h8 h9 fz c1
  go_enter Try.func10, Try.ntmps10
  go_wp2
  exact bodyPost_ret (results_none rfl _ _ _) rfl ⟨rfl, rfl⟩

theorem pCrash_length : ∀ (k : Nat) (L : List Pt), (pCrash k L).length = L.length
  | _, [] => rfl
  | k, x :: r => by simp [pCrash, pCrash_length]

theorem pSet_mid {L1 r : List Pt} {x : Pt} (f : Pt → Pt) (h : PSorted (L1 ++ x :: r)) : pSet x.n f (L1 ++ x :: r) = L1 ++ f x :: r := by
  obtain ⟨h1, h2, h3⟩ := List.pairwise_append.1 h
  obtain ⟨h4, h5⟩ := List.pairwise_cons.1 h2
  unfold pSet
  rw [List.map_append, List.map_cons, if_pos rfl]
  congr 1
  · conv => rhs; rw [← List.map_id L1]
    refine List.map_congr_left fun z hz => ?_
    have := h3 z hz x (List.mem_cons.2 (.inl rfl))
    rw [if_neg (by omega)]
    rfl
  · congr 1
    conv => rhs; rw [← List.map_id r]
    refine List.map_congr_left fun z hz => ?_
    have := h4 z hz
    rw [if_neg (by omega)]
    rfl
theorem setE_ns {pb : Nat} {x y : Ent} {E : List Ent} (hp : E.Pairwise fun x y => x.pb ≠ y.pb) (hx : x ∈ E) (hy : y.n = x.n) (hpb : pb = x.pb) : (setE pb y E).map (·.n) = E.map (·.n) := by
  unfold setE
  rw [List.map_map]
  refine List.map_congr_left fun z hz => ?_
  simp only [Function.comp_def]
  split
  · rename_i h
    rw [uniq hp hx hz (h.trans hpb), hy]
  · rfl

set_option maxHeartbeats 4000000 in
set_option maxRecDepth 100000 in
theorem crash_up (w : World) (d : Nat) (D : Nat → Prop) (room : Int) (E : List Ent) (h : IsDisk w d D room false E) (hE : E.length < 1000000000) (keep : Int) (hk0 : -9223372036854775808 ≤ keep) (hk1 : keep ≤ 9223372036854775807) :
    Calls Try.prog 10 #[.pointer (some ⟨d, 0, none⟩), .int .i64 keep] w fun e w' => e = .returned (.tuple #[]) ∧ Disk w' d D room true (pCrash keep.toNat (E.map Ent.pt)) ∧ Kp D w w' := by
  have H := As.mk h
  obtain ⟨mb, h1, h2, h3, hlt, h4, h5, h6, h7, h8, h9⟩ := h
  obtain ⟨c0, c1, c2, fz⟩ := blk3 h1
  have hdl := blk_lt h1
  clear h1 h2 h3 hlt h4 h5 h6 h7 fz c1 c0
  have hmx : (if keep < 0 then (0 : Int) else keep) = (keep.toNat : Int) := by split <;> omega
  go_enter Try.func10, Try.ntmps10
  go_wp2_with (go_at_call 25; go_must (
    refine (parts_any w d D room false E H.out (by omega)).mono ?_
    rintro e w1 ⟨v, rfl, ho, hk⟩
    obtain ⟨A1, cc1, rfl, _, _, hrd⟩ := ho.read
    have R1 := As.mk hrd
    clear hrd
    have O1 := As.mk ho
    have K1 := As.mk hk
    clear ho hk))
  go_loopw [1, 17] (fun vk vi wr => ∃ (i kk : Nat) (Ei : List Ent) (L1 L2 : List Pt), vi = .int .i64 (i : Int) ∧ vk = .int .i64 (kk : Int) ∧ i ≤ E.length ∧ (kk : Int) ≤ 9223372036854775807 ∧ Ei.length = E.length ∧
      As (Ei.map (·.n) = E.map (·.n)) ∧ As (IsDisk wr d D room false Ei) ∧ As (Kp D w1 wr) ∧ As (Ei.map Ent.pt = L1 ++ L2 ∧ L1.length = i ∧ L1 ++ pCrash kk L2 = pCrash keep.toNat (E.map Ent.pt))) (fun _ vi _ => E.length - (intOf vi).toNat)
  case atStart => exact ⟨0, keep.toNat, E, [], E.map Ent.pt, rfl, by congr 1; omega, by omega, by omega, rfl, ⟨rfl⟩, ⟨H.out.keep K1.out⟩, ⟨Kp.refl _ _⟩, ⟨rfl, rfl, rfl⟩⟩
  case round =>
    obtain ⟨i, kk, Ei, L1, L2, rfl, rfl, hi, hkk, hlen, NS, HD, KD, PC⟩ := hrel
    by_cases hlt : i < E.length
    · obtain ⟨z, hz⟩ : ∃ z, Ei[i]? = some z := ⟨Ei[i], List.getElem?_eq_getElem (by omega)⟩
      have hzm : z ∈ Ei := List.mem_of_getElem? hz
      have hzn : (E.map (·.n))[i]? = some z.n := by rw [← NS.out, List.getElem?_map, hz]; rfl
      obtain ⟨g, rfl, hg⟩ : ∃ g, A1 = some ⟨g, 0, none⟩ ∧ w.heap.size ≤ g := by
        rcases O1.out.1.2 with ⟨he, h0⟩ | ⟨g, cap, cur, he, hb, hh, _⟩
        · omega
        · injection he with e1 e2 e3
          subst e1
          exact ⟨g, rfl, O1.out.2 g rfl⟩
      have hcell : wr.cell? ⟨g, i, none⟩ = some (.int .i64 z.n) := by
        obtain ⟨ad, e, hf, hc⟩ := R1.out.at_ (j := i) (u := .int .i64 z.n) (by rw [List.getElem?_map] at hzn ⊢; revert hzn; cases E[i]? with
          | none => intro h; cases h
          | some q => intro h; simp only [Option.map_some] at h ⊢; injection h with h; rw [h])
        injection e with e
        subst e
        rw [add_plain', Nat.zero_add] at hc
        exact KD.out.cell hc (fun h => by have h1 := H.out.lt _ h; have h2 : g < w.heap.size := h1; omega)
      have hat : at? (kbs Ei) z.n = some z.pb := by
        have := HD.out.sorted
        rw [kbs_find]
        cases hf : Ei.find? (·.n == z.n) with
        | none => have := List.find?_eq_none.1 hf z hzm; simp at this
        | some q =>
          have h1 := find_ent hf
          have := (ne_n HD.out.sorted HD.out.pbs hzm h1.1).2 h1.2.1
          rw [Option.map_some, this]
      have hul := le_used hzm
      have hur := HD.out.room_le
      have HH := HD.out
      obtain ⟨mb, h1, h2, h3, hlt', h4, h5, h6, h7, h8', h9'⟩ := HH
      have hzb := h4.2.1 (z.n, z.pb) (List.mem_map.2 ⟨z, hzm, rfl⟩)
      obtain ⟨c0, c1, c2', fz⟩ := blk3 h1
      have hz0 : ∀ w, (zeroValue 66).run Try.prog w = .ok (.pointer none) w := fun w => by kernel_rfl
      have hr2 : (Instr.lookup 63 (.map (some mb)) (.int .i64 z.n) false).run Try.prog wr = .ok (.pointer (some ⟨z.pb, 0, none⟩)) wr := by
        rcases h4.look keyed_int Try.underlying3 Try.underlying63 hz0 rfl (fun b => .pointer (some ⟨b, 0, none⟩)) (fun v b => ptrTok_inv) z.n hzb with ⟨hb, _, _⟩ | ⟨b', hb, _, hr2⟩
        · rw [hat] at hb; cases hb
        · rw [hat] at hb
          obtain rfl := Option.some.inj hb
          exact hr2
      obtain ⟨hDz, hb, ho, hs⟩ := h5 z hzm
      obtain ⟨A, c, hv, hc1, hc2, hr⟩ := ho.read
      have HX := As.mk (And.intro ho (And.intro hb (And.intro hDz hv)))
      rw [hv] at hb
      obtain ⟨p0, p1, pz⟩ := blk2 hb
      have pz0 := pz 0
      have pz1 := pz 1
      obtain ⟨m, hm⟩ : ∃ m, m = min kk (z.b.length - z.s) := ⟨_, rfl⟩
      have hm1 : m ≤ kk := by omega
      have hm2 : z.s + m ≤ z.b.length := by omega
      have hm3 : ((z.s : Int) + (m : Int)) ≤ (c : Int) := by omega
      have hm4 : (0 : Int) ≤ (z.s : Int) + (m : Int) := by omega
      have hmm : min (kk : Int) ((z.b.length : Int) - (z.s : Int)) = (m : Int) := by omega
      have hwr := IntWalk.i64_in ((z.b.length : Int) - (z.s : Int)) (by omega)
      have HM := As.mk hm
      have HZ := As.mk (And.intro hz (And.intro hzn hat))
      clear hm hz hzn hat hz0 h1 h2 h3 hlt' h4 h5 h6 h7 hb ho hr fz hv pz c0
      go_wp2
      go_quiet (fail)
      go_wp2
      obtain ⟨W, hW⟩ : ∃ W, W = (wr.drewN nq).setCell ⟨z.pb, 1, none⟩ (.int .i64 ((z.s : Int) + (m : Int))) := ⟨_, rfl⟩
      rw [← hW]
      have hb3 : W.heap[z.pb]? = some (.cells #[.slice A z.b.length c, .int .i64 ((z.s : Int) + (m : Int))] 69 (0, 0)) := by
        rw [hW, blk_set (blk_drewN HX.out.2.1 nq), HX.out.2.2.2]; rfl
      have hKW : Kp (Is z.pb) wr W := by
        rw [hW]
        exact ((Kp.refl _ wr).drewN nq).set 1 _
      have WS := As.mk (show W.heap.size = wr.heap.size by rw [hW]; simp [World.setCell])
      have KW := As.mk hKW
      have B3 := As.mk hb3
      obtain ⟨q0, q1, qz⟩ := blk2 hb3
      have qz0 := qz 0
      clear hb3 hKW p0 p1 pz0 pz1 qz hr2 hcell c1 hW
      go_still_tail 12, (by kernel_rfl)
      change wpList _ _ _ _ _ W.drew
      have KW2 := As.mk KW.out.drew
      have B4 := As.mk (show W.drew.heap[z.pb]? = _ from B3.out)
      go_wp2
      obtain ⟨hz, hzn, hat⟩ := HZ.out
      obtain ⟨ho, hb, hDz, hv⟩ := HX.out
      obtain ⟨P1, P2, P3⟩ := PC.out
      obtain ⟨x, r, rfl⟩ : ∃ x r, L2 = x :: r := by
        cases L2 with
        | nil =>
          have := congrArg List.length P1
          simp at this
          omega
        | cons x r => exact ⟨x, r, rfl⟩
      have hx : z.pt = x := by
        have e1 : (Ei.map Ent.pt)[i]? = some z.pt := by rw [List.getElem?_map, hz]; rfl
        rw [P1, ← P2, List.getElem?_append_right (Nat.le_refl _), Nat.sub_self] at e1
        simpa using e1.symm
      subst hx
      obtain ⟨y, hy⟩ : ∃ y : Ent, y = ⟨z.n, z.pb, .slice A (z.s + m) c, z.b.take (z.s + m), z.s + m⟩ := ⟨_, rfl⟩
      have hyl : y.b.length = z.s + m := by rw [hy]; show (List.take _ _).length = _; rw [List.length_take]; omega
      have hne : ∀ q, z.v.ownBlock = some q → ¬ Is z.pb q := fun q hq he => own_ne ho hb (by decide) (show z.v.ownBlock = some z.pb from (show q = z.pb from he) ▸ hq)
      have KI : Kp (Is z.pb) wr (W.setCell ⟨z.pb, 0, none⟩ (.slice A (z.s + m) c)).drew := (KW.out.set 0 _).drew
      have KF : Kp (fun k => k = z.pb ∨ z.v.ownBlock = some k) wr (W.setCell ⟨z.pb, 0, none⟩ (.slice A (z.s + m) c)).drew := KI.mono (fun k _ h => .inl h)
      have hsz : (W.setCell ⟨z.pb, 0, none⟩ (.slice A (z.s + m) c)).drew.heap.size = wr.heap.size := by
        show (W.setCell ⟨z.pb, 0, none⟩ (.slice A (z.s + m) c)).heap.size = _
        rw [← WS.out]
        simp [World.setCell]
      have hT := HD.out.turnPart hzm (y := y) (by rw [hy]; exact ⟨rfl, rfl⟩) KF (by show (W.setCell ⟨z.pb, 0, none⟩ (.slice A (z.s + m) c)).heap[z.pb]? = _; rw [blk_set B3.out, hy]; rfl) (by
        have o := ho
        rw [hv] at o
        have o2 := o.only.head hm2
        have e2 : u8s (z.b.take (z.s + m)) = (u8s z.b).take ((z.s + m) * 1) := by rw [u8s, u8s, Nat.mul_one, List.map_take]
        rw [hyl, hy]
        show Own _ _ _ _ (.slice A (z.s + m) c) (z.s + m) (u8s (z.b.take (z.s + m)))
        rw [e2]
        exact (o2.kp KI (fun q hq => hne q (by rw [hv]; exact hq.2))).mono (fun q _ hq => .inl (by rw [hv]; exact hq.2))) (by rw [hyl, hy]; exact Nat.le_refl _) (by
        have := setE_used HD.out.pbs hzm (y := y) (by rw [hy])
        omega)
      refine ⟨⟨i + 1, kk - m, setE z.pb y Ei, L1 ++ [cutPt kk z.pt], r, by go_num, by congr 1; omega, by omega, by omega, by simpa [setE] using hlen, ⟨?_⟩, ⟨hT.mono ?_ ?_⟩, ⟨KD.out.trans (KF.gr ?_) (fun _ _ h => h)⟩, ⟨?_, ?_, ?_⟩⟩, by simp [intOf]; omega⟩
      · rw [setE_ns HD.out.pbs hzm (by rw [hy]) rfl]
        exact NS.out
      · rintro q (hq | hq)
        · exact hq
        · omega
      · intro q hq
        rw [hsz]
        exact HD.out.lt q hq
      · rintro q (rfl | hq)
        · exact hDz
        · exact ho.2 q hq
      · rw [setE_pt HD.out.sorted HD.out.pbs hzm (cutPt kk) (by rw [hy, HM.out]; rfl), P1]
        have := pSet_mid (L1 := L1) (r := r) (x := z.pt) (cutPt kk) (by rw [← P1]; exact List.pairwise_map.2 HD.out.sorted)
        rw [List.append_assoc]
        exact this
      · simp [P2]
      · rw [← P3, HM.out, List.append_assoc]
        rfl
    · have hge : ¬ i < E.length := hlt
      have HH := HD.out
      obtain ⟨mb, h1, h2, h3, hlt', h4, h5, h6, h7, h8', h9'⟩ := HH
      obtain ⟨c0, c1, c2', fz⟩ := blk3 h1
      have f2 := fz 2
      clear h1 h2 h3 hlt' h4 h5 h6 h7 fz c0 c1
      go_wp2
      go_end0
      obtain ⟨P1, P2, P3⟩ := PC.out
      have e1 : L2 = [] := by
        have := congrArg List.length P1
        simp at this
        exact List.eq_nil_of_length_eq_zero (by omega)
      subst e1
      have KF : Kp (Is d) wr (wr.setCell ⟨d, 2, none⟩ (.bool true)) := (Kp.refl _ wr).set 2 _
      refine ⟨rfl, ⟨Ei, HD.out.turn true KF (fun mb hm => by rw [blk_set hm]; rfl), ?_⟩, (K1.out.mono (fun _ _ h => h.elim)).trans (KD.out.trans (KF.gr (fun q hq => by have e : q = d := hq; rw [e]; exact H.out.own)) (fun _ _ h => h)) (fun _ _ h => h)⟩
      rw [P1, ← P3]
      simp [pCrash]

theorem disk_crash (w : World) (d : Nat) (D : Nat → Prop) (room : Int) (down : Bool) (L : List Pt) (h : Disk w d D room down L) (hL : L.length < 1000000000) (keep : Int) (hk0 : -9223372036854775808 ≤ keep) (hk1 : keep ≤ 9223372036854775807) :
    Calls Try.prog 10 #[.pointer (some ⟨d, 0, none⟩), .int .i64 keep] w fun e w' => e = .returned (.tuple #[]) ∧ Disk w' d (Gr D w w') room true (if down then L else pCrash keep.toNat L) ∧ Kp D w w' := by
  obtain ⟨E, h1, rfl⟩ := h
  cases down with
  | true =>
    refine (crash_down w d D room E h1 keep).mono ?_
    rintro e w' ⟨rfl, rfl⟩
    exact ⟨rfl, ⟨E, h1.mono (fun k hk => .inl hk) (Gr.lt h1.lt (Nat.le_refl _)), rfl⟩, Kp.refl _ _⟩
  | false =>
    refine (crash_up w d D room E h1 (by simpa using hL) keep hk0 hk1).mono ?_
    rintro e w' ⟨rfl, h2, h3⟩
    exact ⟨rfl, h2.mono (fun k hk => .inl hk) (Gr.lt h1.lt h3.size), h3⟩
theorem disk_used (w : World) (d : Nat) (D : Nat → Prop) (room : Int) (down : Bool) (L : List Pt) (h : Disk w d D room down L) :
    Calls Try.prog 23 #[.pointer (some ⟨d, 0, none⟩)] w fun e w' => e = .returned (.int .i64 (pUsed L : Int)) ∧ Kp No w w' := by
  obtain ⟨E, h1, rfl⟩ := h
  rw [pUsed_map]
  exact used_any w d D room down E h1
theorem disk_parts (w : World) (d : Nat) (D : Nat → Prop) (room : Int) (down : Bool) (L : List Pt) (h : Disk w d D room down L) (hL : L.length ≤ 1000000000) :
    Calls Try.prog 25 #[.pointer (some ⟨d, 0, none⟩)] w fun e w' => ∃ v, e = .returned v ∧ Own w' (New w) 3 1 v L.length (L.map fun x => .int .i64 x.n) ∧ Kp No w w' := by
  obtain ⟨E, h1, rfl⟩ := h
  refine (parts_any w d D room down E h1 (by simpa using hL)).mono ?_
  rintro e w' ⟨v, rfl, h2, h3⟩
  refine ⟨v, rfl, ?_, h3⟩
  rw [List.length_map, List.map_map]
  exact h2
theorem disk_up (w : World) (d : Nat) (D : Nat → Prop) (room : Int) (down : Bool) (L : List Pt) (h : Disk w d D room down L) :
    Calls Try.prog 11 #[.pointer (some ⟨d, 0, none⟩)] w fun e w' => e = .returned (.tuple #[]) ∧ Disk w' d (Gr D w w') room false L ∧ Kp D w w' := by
  obtain ⟨E, h1, rfl⟩ := h
  refine (up_any w d D room down E h1).mono ?_
  rintro e w' ⟨rfl, h2, h3, h4⟩
  exact ⟨rfl, ⟨E, h2.mono (fun k hk => .inl hk) (Gr.lt h1.lt h3.size), rfl⟩, h3.gr (fun k hk => by have e : k = d := hk; rw [e]; exact h1.own)⟩
theorem disk_new (room : Int) (w : World) (h0 : 1 ≤ room) (h1 : room ≤ 65536) : Calls Try.prog 7 #[.int .i64 room] w fun e w' => ∃ d, e = .returned (.tuple #[.pointer (some ⟨d, 0, none⟩), .nilIface]) ∧ w.heap.size ≤ d ∧ Disk w' d (fun k => w.heap.size ≤ k ∧ k < w'.heap.size) room false [] ∧ Kp No w w' := by
  refine (diskNew_ok room w h0 h1).mono ?_
  rintro e w' ⟨d, rfl, hd, h2, h3⟩
  exact ⟨d, rfl, hd, ⟨[], h2, rfl⟩, h3⟩
end Go.Proofs.Ytnonbimelkagpaa
