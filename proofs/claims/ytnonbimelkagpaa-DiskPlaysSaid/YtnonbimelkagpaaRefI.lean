/- The reference's disk: Append to a part that is not there yet. -/
import Derived.Test.YtnonbimelkagpaaRefH
namespace Go.Proofs.Ytnonbimelkagpaa
set_option linter.unusedVariables false
set_option linter.unusedSimpArgs false
open Go.RowKit Go.Lib

theorem build0 {ops : Array Oper} {rest : List Oper} {o : Oper} {a : Act} {w : World} {Q : Exit → Act → World → Prop} (hgd : o.guard = none) (ho : o.op = .buildSlice 38 0 #[])
    (h : wpList Try.prog ops Q rest (a.put o.dst (.slice (some ⟨w.heap.size, 0, none⟩) 0 0)) (w.alloc (.cells #[] 54))) : wpList Try.prog ops Q (o :: rest) a w := by
  refine wpList_plain hgd fun K hK => ?_
  have hb0 : (Instr.buildSlice 38 0 #[]).run Try.prog w = .ok (.slice (some ⟨w.heap.size, 0, none⟩) 0 0) (w.alloc (.cells #[] 54)) := by
    simp [Instr.buildSlice, run_underlying Try.underlying38, size3, Instr.fill, newRow, show Array.range 0 = #[] from by decide]
  unfold Oper.wp execOp
  simp only [ho, Sem.run_bind, Sem.run_pure, Result.andThen_ok, List.map_toArray, List.map_nil, hb0]
  exact hK _ _ h
section
variable {w : World} {F : Nat → Prop} {A : Option Addr} {n c k : Nat} {cs : List Value}
set_option maxRecDepth 100000 in
theorem cut_hi (h : Own w F 54 3 (.slice A n c) n cs) (hk : k ≤ c) : ∀ W, (Instr.slice 38 (.slice A n c) none (some (.int .i64 (k : Int))) none).run Try.prog W = .ok (.slice A k c) W := fun W => by
  have := run_slice_h W 38 A n c Try.underlying38 .i64 (k : Int) (by omega) (by omega)
  rw [this, show Try.prog.elem 38 = 54 from rfl, size3]
  rcases h.1.2 with ⟨he, _⟩ | ⟨g, cap, cur, he, _⟩
  · injection he with e1
    subst e1
    simp [sliced]
  · injection he with e1
    subst e1
    simp [sliced, Addr.add]
set_option maxRecDepth 100000 in
theorem cut_lo (h : Own w F 54 3 (.slice A n c) n cs) (hk : k ≤ n) : ∀ W, (Instr.slice 38 (.slice A n c) (some (.int .i64 (k : Int))) none none).run Try.prog W = .ok (.slice (cutA A k c 3) (n - k) (c - k)) W := fun W => by
  have := run_cut_lo (P := Try.prog) (A := A) W 38 54 Try.underlying38 rfl 3 size3 n c (k : Int) (by omega) (by omega)
  simpa using this
end
/-- Where a part comes in. -/
theorem pIns_at (y : Pt) : ∀ (L : List Pt) (i : Nat), (∀ j x, j < i → L[j]? = some x → ¬ y.n < x.n) → (∀ x, L[i]? = some x → y.n < x.n) → i ≤ L.length → pIns y L = L.take i ++ y :: L.drop i
  | [], 0, _, _, _ => rfl
  | [], i + 1, _, _, h => by simp at h
  | x :: r, 0, _, h2, _ => by
    unfold pIns
    rw [if_pos (h2 x rfl)]
    rfl
  | x :: r, i + 1, h1, h2, h3 => by
    unfold pIns
    rw [if_neg (h1 0 x (by omega) rfl), pIns_at y r i (fun j z hj hz => h1 (j + 1) z (by omega) (by simpa using hz)) (fun z hz => h2 z (by simpa using hz)) (by simpa using h3)]
    rfl
set_option maxHeartbeats 8000000 in
set_option maxRecDepth 100000 in
theorem rapp_new (w1 : World) (m : Nat) (M : Nat → Prop) (room : Int) (L : List Pt) (h : Ref w1 m M room false L) (hL : L.length ≤ 1000000000) (hU : pUsed L ≤ 1000000000) (hr0 : 0 ≤ room) (hr : room ≤ 1000000000) (n : Int) (hn : ¬ n < 0) (b : List UInt8) (B : ByteArray) (hb : B = ⟨b.toArray⟩) (hB : ¬ room - pUsed L < B.size)
    (hq : rIdx n L 0 = -1) (hno : ∀ (j : Nat) (x : Pt), L[j]? = some x → x.n ≠ n) (L' : List Pt) (hL' : L' = pIns ⟨n, b, 0⟩ L) :
    Calls Try.prog 14 #[.pointer (some ⟨m, 0, none⟩), .int .i64 n, .string B] w1 fun e w' => e = .returned (.int .i64 0) ∧ Ref w' m (Gr M w1 w') room false L' ∧ Kp M w1 w' := by
  have H := As.mk h
  obtain ⟨_, _, _, c2, _, c0⟩ := h.cells
  have hwr := IntWalk.i64_in (room - (pUsed L : Int)) (by omega)
  have AT := As.mk (refAt_any w1.drew m M room false L (h.keep (Kp.refl No w1).drew) hL n)
  rw [hq] at AT
  have HX := As.mk (And.intro hno (And.intro hL' hb))
  have hBl : B.size ≤ 1000000000 := by omega
  clear h hq hL' hb hno
  go_enter Try.func14, Try.ntmps14
  go_wp2
  refine wp_region_plan (fun w' => w'.cell? ⟨m, 0, none⟩ = some (.int .i64 room) ∧ Ref w' m M room false L) (by kernel_rfl) ?_
  have hS : w1.drew.cell? ⟨m, 0, none⟩ = some (.int .i64 room) ∧ Ref w1.drew m M room false L := ⟨c0, H.out.keep (Kp.refl No w1).drew⟩
  simp only [lexOf, Nat.reduceAdd, List.size_toArray, List.length_cons, List.length_nil, Array.replicate, List.replicate]
  iterate 7
    refine plan_take (v := ?_) rfl (by kernel_rfl) (by rfl) hS ?_ ?_
    rotate_left 1
    · intro w hSw; obtain ⟨hs1, _⟩ := hSw; go_simp
      try with_reducible rfl
    simp only [Act.put, List.setIfInBounds_toArray, List.set_cons_zero, List.set_cons_succ]
  refine plan_do rfl (by kernel_rfl) (by rfl) (fun K hK => ?_)
  go_simp
  go_at_call 24
  refine (refUsed_any _ m M room false L hS.2 hL hU).mono ?_
  rintro e w2 ⟨rfl, rfl⟩
  refine hK.out _ _ hS ?_
  clear K hK
  simp only [Act.put, List.setIfInBounds_toArray, List.set_cons_zero, List.set_cons_succ]
  iterate 2
    refine plan_do_at (v := ?_) rfl (by kernel_rfl) (by rfl) hS ?_ ?_
    rotate_left 1
    · go_simp
      try with_reducible rfl
    simp only [Act.put, List.setIfInBounds_toArray, List.set_cons_zero, List.set_cons_succ]
  refine plan_done (by kernel_rfl) (NoPanic.normal ?_)
  have hS2 := As.mk hS.2
  have KW := As.mk (Kp.refl No w1).drew
  clear hS
  go_wp2_with (go_at_call 35; go_must (refine AT.out.mono ?_; rintro e w2 ⟨rfl, hw2⟩; have R2 := As.mk hS2.out; have K2 := As.mk KW.out; rw [← hw2] at R2 K2; clear hw2))
  have hblk := R2.out
  obtain ⟨v, h1, h2, h3, h4⟩ := hblk
  obtain ⟨A, cc, rfl, hcc, hcm, hne, i4⟩ := pts_see h4
  obtain ⟨_, c1, _, _⟩ := blk3 h1
  have B2 := As.mk h1
  have M2 := As.mk (And.intro h2 h3)
  have O2 := As.mk h4
  have I4 := As.mk i4
  have NE := As.mk hne
  obtain ⟨nL, hnL⟩ : ∃ z, z = L.length := ⟨_, rfl⟩
  have HN := As.mk hnL
  rw [← hnL] at c1 hL hcc
  clear h1 h2 h3 h4 i4 hne hnL c2 c0
  go_loop [7] (fun vi => ∃ i : Nat, vi = .int .i64 (i : Int) ∧ i ≤ nL ∧ As (∀ (j : Nat) (x : Pt), j < i → L[j]? = some x → x.n < n)) (fun vi => nL - (intOf vi).toNat)
  case atStart => exact ⟨0, rfl, Nat.zero_le _, ⟨fun j x hj => absurd hj (Nat.not_lt_zero _)⟩⟩
  case round =>
    obtain ⟨i, rfl, hi, J⟩ := hrel
    by_cases hgo : ∃ x, L[i]? = some x ∧ x.n < n
    · obtain ⟨x, hx, hv⟩ := hgo
      have hil : i < L.length := (List.getElem?_eq_some_iff.1 hx).1
      have hlt : i < nL := by have := HN.out; omega
      obtain ⟨g, rfl, _⟩ := NE.out (by intro e; rw [e] at hil; simp at hil)
      have hcell := (I4.out g rfl i x hx).1
      have HX1 := As.mk hx
      obtain ⟨xn, hxn⟩ : ∃ z, z = x.n := ⟨_, rfl⟩
      have HXN := As.mk hxn
      rw [← hxn] at hcell hv
      have E1 := As.mk (show ∀ (j : Nat) (y : Pt), j < i + 1 → L[j]? = some y → y.n < n from fun j y hj hy => by
        by_cases e : j < i
        · exact J.out j y e hy
        · obtain rfl : j = i := by omega
          rw [hx] at hy
          obtain rfl := Option.some.inj hy
          rw [← hxn]
          exact hv)
      clear hx hxn hil
      go_wp2
      go_round
      case rel => exact ⟨i + 1, by go_num, by omega, E1⟩
      case measure => simp [intOf]; omega
    · have HG := As.mk (show ∀ x, L[i]? = some x → n < x.n from fun x hx => by
        have h1 : ¬ x.n < n := fun e => hgo ⟨x, hx, e⟩
        have h2 := HX.out.1 i x hx
        omega)
      clear hgo
      by_cases hlt : i < nL
      all_goals
      first
        | (have hil : i < L.length := by have := HN.out; omega
           obtain ⟨g, rfl, _⟩ := NE.out (by intro e; rw [e] at hil; simp at hil)
           obtain ⟨x, hx⟩ : ∃ x, L[i]? = some x := ⟨_, List.getElem?_eq_getElem hil⟩
           have hcell := (I4.out g rfl i x hx).1
           have hv := HG.out x hx
           obtain ⟨xn, hxn⟩ : ∃ z, z = x.n := ⟨_, rfl⟩
           rw [← hxn] at hcell hv
           have hv2 : ¬ xn < n := by omega
           clear hx hxn hil hv)
        | (have hge : ¬ i < nL := hlt)
      go_wp2_with (first
        | ((with_reducible refine gate (N := 51) rfl ?_); go_must (
            obtain ⟨A', B3, O3⟩ : ∃ A', As (w2.heap[m]? = some (.cells #[.int .i64 room, .slice A' nL cc, .bool false] 40 (0, 0)) ∧ w2.cell? ⟨m, 1, none⟩ = some (.slice A' nL cc)) ∧ As (Own w2 M 54 3 (.slice A' nL cc) nL (ptCells L)) := ⟨_, ⟨by rw [HN.out]; exact B2.out, c1⟩, ⟨by rw [HN.out]; exact O2.out⟩⟩
            clear c1
            refine build0 rfl rfl ?_
            have hcH := cut_hi O3.out (k := i) (by omega)
            have hcL := cut_lo O3.out (k := i) (by omega)
            have K3 := As.mk ((Kp.refl No w2).alloc (.cells #[] 54))
            have E3 := As.mk ((Own.empty w2).mono (G := New w2) (fun k _ hk => by have e : k = w2.heap.size := hk; exact Nat.le_of_eq e.symm))
            obtain ⟨w3, hw3⟩ : ∃ w3, w3 = w2.alloc (.cells #[] 54) := ⟨_, rfl⟩
            rw [← hw3] at K3 E3 ⊢
            have c1 := (blk3 (K3.out.heap B3.out.1 id)).2.1
            clear hw3))
        | ((with_reducible refine gate (N := 58) rfl ?_); go_must (
            refine app (w := w3) rfl _ _ _ rfl 54 _ 3 32 infoPart Try.underlying38 rfl (by decide) (.slice (some ⟨w2.heap.size, 0, none⟩) 0 0) 0 [] rfl E3.out A' i cc (ptCells (L.take i)) rfl (F := M) ?zr ?zl ?zo ?zm ?zb ?_
            case zr =>
              have hq' : i ≤ L.length := by have := HN.out; omega
              obtain ⟨A0, c0, e0, _, _, hrd⟩ := (O3.out.keep K3.out).read
              injection e0 with e0
              subst e0
              rw [← ptCells_take L i hq']
              exact (hrd.mono (fun k hk => hk.1)).take _
            case zl => rw [ptCells_len, List.length_take]; have := HN.out; omega
            case zo => exact ptCells_one _
            case zm => unfold maxLen; omega
            case zb => omega
            intro v4 w4 o4 g4
            rw [Nat.zero_add, List.nil_append] at o4
            have K4 := As.mk (K3.out.grown g4 (fun k hk => .inr (by simp [Value.ownBlock] at hk; omega)))
            have hs3 := K3.out.size
            have O4 := As.mk (o4.mono (G := New w2) (fun k _ hk => by
              rcases hk with hk | hk
              · simp [Value.ownBlock] at hk; exact Nat.le_of_eq hk
              · exact Nat.le_trans hs3 hk))
            obtain ⟨A4, c4, rfl, _, _, _⟩ := o4.read
            clear o4 g4 hs3 c1))
        | ((with_reducible refine gate (N := 63) rfl ?_); go_must (
            refine app1 (w := w4) rfl _ _ _ rfl 54 _ 3 32 infoPart Try.underlying38 rfl (by decide) (.slice A4 i c4) i (ptCells (L.take i)) rfl O4.out #[.int .i64 n, .string ⟨#[]⟩, .int .i64 0] _ rfl ?zh rfl (S := No) (w0 := w2) K4.out (fun k hk => hk) (fun k hk => .inr hk) ?zi ?zj ?_
            case zh => intro u hu; simp at hu; rcases hu with rfl | rfl | rfl <;> rfl
            case zi => unfold maxLen; omega
            case zj => omega
            intro v5 w5 o5 k5 g5
            obtain ⟨A5, c5, rfl, _, _, _⟩ := o5.read
            have O5 := As.mk o5
            have K5 := As.mk k5
            have c1 := (blk3 (K5.out.heap B3.out.1 id)).2.1
            clear o5 k5 g5))
        | ((with_reducible refine gate (N := 72) rfl ?_); go_must (
            refine app (w := w5) rfl _ _ _ rfl 54 _ 3 32 infoPart Try.underlying38 rfl (by decide) (.slice A5 (i + 1) c5) (i + 1) _ rfl O5.out (cutA A' i cc 3) (nL - i) (cc - i) (ptCells (L.drop i)) rfl (F := M) ?zr ?zl ?zo ?zm ?zb ?_
            case zr =>
              have hq' : i ≤ L.length := by have := HN.out; omega
              obtain ⟨A0, c0, e0, _, _, hrd⟩ := (O3.out.keep K5.out).read
              injection e0 with e0
              subst e0
              rw [← ptCells_drop L i hq']
              exact (hrd.mono (fun k hk => hk.1)).cutA i cc 3 (by rw [ptCells_len]; have := HN.out; omega)
            case zl => rw [ptCells_len, List.length_drop]; have := HN.out; omega
            case zo => exact ptCells_one _
            case zm => unfold maxLen; omega
            case zb => omega
            intro v6 w6 o6 g6
            have K6 := As.mk (K5.out.grown g6 (fun k hk => .inr (O5.out.2 k hk)))
            have hs5 := K5.out.size
            have O6 := As.mk (o6.mono (G := New w2) (fun k _ hk => by
              rcases hk with hk | hk
              · exact O5.out.2 k hk
              · exact Nat.le_trans hs5 hk))
            have hln : i + 1 + (nL - i) = nL + 1 := by omega
            rw [hln] at O6 o6
            obtain ⟨g5, c5, rfl⟩ : ∃ g5 c5, v6 = .slice (some ⟨g5, 0, none⟩) (nL + 1) c5 := by
              rcases o6.1.2 with ⟨_, h0⟩ | ⟨g5, cap, cur, he, _⟩
              · omega
              · exact ⟨g5, cap, he⟩
            have B6 := As.mk (K6.out.heap B3.out.1 id)
            obtain ⟨_, c1, _, fzz⟩ := blk3 B6.out
            have fz1 := fzz 1
            have G5 := As.mk (O6.out.2 g5 rfl)
            clear o6 g6 hs5 fzz hcL)))
      obtain ⟨w7, hw7⟩ : ∃ w7, w7 = w6.setCell ⟨m, 1, none⟩ (.slice (some ⟨g5, 0, none⟩) (nL + 1) c5) := ⟨_, rfl⟩
      rw [← hw7]
      have K7 := As.mk (show Kp M w2 w7 by rw [hw7]; exact (K6.out.mono (fun k _ h => h.elim)).setCell (p := ⟨m, 1, none⟩) (.inl M2.out.1) _)
      obtain ⟨L1, hL1⟩ : ∃ L1, L1 = L.take i ++ ⟨n, [], 0⟩ :: L.drop i := ⟨_, rfl⟩
      have hiL : i ≤ L.length := by have := HN.out; omega
      have hln1 : L1.length = nL + 1 := by rw [hL1, List.length_append, List.length_cons, List.length_take, List.length_drop]; have := HN.out; omega
      have hti : (L.take i).length = i := by rw [List.length_take]; omega
      have hat : L1[i]? = some ⟨n, [], 0⟩ := by have := at_mid (L.take i) ⟨n, [], 0⟩ (L.drop i); rw [hti] at this; rw [hL1]; exact this
      have S7 := As.mk (show Seen w7 m (Gr M w2 w7) room false L1 g5 c5 (nL + 1) from ⟨by rw [hw7, blk_set B6.out]; rfl, .inl M2.out.1, Gr.lt M2.out.2 K7.out.size, by
        have o := O6.out.only.kp ((Kp.refl (Is m) w6).set 1 (.slice (some ⟨g5, 0, none⟩) (nL + 1) c5)) (fun k hk he => own_ne O6.out B6.out (by decide) (by have e : k = m := he; exact e ▸ hk.2))
        rw [hw7, hL1, ptCells_append, ptCells_cons]
        simp only [List.append_assoc, List.cons_append, List.nil_append] at o
        exact o.mono (fun k hlt hk => .inr ⟨hk.1, hlt⟩), hln1.symm⟩)
      have HAT := As.mk (And.intro hat hL1)
      obtain ⟨S, hSe⟩ : ∃ S : ByteArray, S = ⟨([] : List UInt8).toArray⟩ := ⟨_, rfl⟩
      have hSB : ¬ 9223372036854775807 < S.size + B.size := by
        have : S.size = 0 := by rw [hSe]; rfl
        omega
      have hS : w7.drew.cell? ⟨m, 1, none⟩ = some (.slice (some ⟨g5, 0, none⟩) (nL + 1) c5) ∧ w7.drew.cell? ⟨g5, i * 3 + 1, none⟩ = some (.string S) ∧ w7.drew.frozen? ⟨g5, i * 3 + 1, none⟩ = false := by
        have s7 := S7.out.drew
        obtain ⟨_, d1, _, d3⟩ := s7.part hat
        refine ⟨s7.row, ?_, d3 _⟩
        rw [hSe]
        exact d1
      have HSE := As.mk hSe
      have hi0 : (0 : Int) ≤ (i : Int) := by omega
      have hi1 : (i : Int) < ((nL + 1 : Nat) : Int) := by omega
      have hi2 : (i : Int) < (nL : Int) + 1 := by omega
      have hi3 : i < nL + 1 := by omega
      clear hw7 c1 fz1 hat hL1 hSe hln1
      refine wp_region_planL [17] (fun w' => w'.cell? ⟨m, 1, none⟩ = some (.slice (some ⟨g5, 0, none⟩) (nL + 1) c5) ∧ w'.cell? ⟨g5, i * 3 + 1, none⟩ = some (.string S) ∧ w'.frozen? ⟨g5, i * 3 + 1, none⟩ = false) (by kernel_rfl) ?_
      simp only [lexOf, Nat.reduceAdd, List.size_toArray, List.length_cons, List.length_nil, Array.replicate, List.replicate]
      iterate 15
        refine planL_take (v := ?_) rfl (by kernel_rfl) (by rfl) hS ?_ ?_
        rotate_left 1
        · intro w hSw; obtain ⟨hs1, hs2, hs3⟩ := hSw; go_simp
          try with_reducible rfl
        simp only [Act.put, List.setIfInBounds_toArray, List.set_cons_zero, List.set_cons_succ]
      iterate 2
        refine planL_do_at (v := ?_) rfl (by kernel_rfl) (by rfl) hS ?_ ?_
        rotate_left 1
        · obtain ⟨hs1, hs2, hs3⟩ := hS; go_simp
          try with_reducible rfl
        simp only [Act.put, List.setIfInBounds_toArray, List.set_cons_zero, List.set_cons_succ]
      refine planL_last rfl (by kernel_rfl) (by decide) (by rfl) (fun K hK => ?_)
      obtain ⟨_, _, hs3⟩ := hS
      go_simp
      refine hK.out _ _ ?_
      clear K hK
      simp only [Act.put, List.setIfInBounds_toArray, List.set_cons_zero, List.set_cons_succ]
      refine planL_done (by kernel_rfl) (NoPanic.normal ?_)
      go_wp2
      go_ret
      obtain ⟨hat, hL1⟩ := HAT.out
      obtain ⟨hno, hL', hb⟩ := HX.out
      have T2 := S7.out.drew.turn (p := i * 3 + 1) (by omega) (.string (S ++ B)) L' (by
        have hp := pIns_at ⟨n, b, 0⟩ L i (fun j x hj hx => by have := J.out j x hj hx; simp; omega) (fun x hx => HG.out x hx) hiL
        rw [hL', hp, show Value.string (S ++ B) = bstr ([] ++ b) by rw [HSE.out, hb, bstr_append]; rfl]
        have := (ptCells_set L1 i _ hat).1 ([] ++ b)
        rw [this]
        congr 1
        rw [hL1]
        have := set_mid (L.take i) ⟨n, [], 0⟩ ⟨n, [] ++ b, 0⟩ (L.drop i)
        rw [hti] at this
        exact this) (by
        have hp := pIns_at ⟨n, b, 0⟩ L i (fun j x hj hx => by have := J.out j x hj hx; simp; omega) (fun x hx => HG.out x hx) hiL
        rw [hL', hp, hL1, List.length_append, List.length_append, List.length_cons, List.length_cons])
      have KK := K7.out.drew.trans (T2.2.mono (fun k hlt hk => hk)) (fun k hlt hk => (show M k from by
        rcases hk with h | h
        · exact h
        · exact absurd hlt (by omega)))
      have KF := (K2.out.mono (fun k _ h => h.elim)).trans KK (fun _ _ h => h)
      refine ⟨rfl, T2.1.ref.mono (fun k hk => ?_) (Gr.lt (fun k hk => ?_) KF.size), KF⟩
      · have h8 : w7.heap.size ≤ _ := T2.2.size
        have h2 := K2.out.size
        rcases hk with h | ⟨ha, hb2⟩
        · exact .inl h
        · exact .inr ⟨Nat.le_trans h2 ha, Nat.lt_of_lt_of_le hb2 h8⟩
      · exact H.out.lt k hk
/-- Append. -/
theorem refAppend_any (w : World) (m : Nat) (M : Nat → Prop) (room : Int) (down : Bool) (L : List Pt) (h : Ref w m M room down L) (hs : PSorted L) (hL : L.length ≤ 1000000000) (hU : pUsed L ≤ 1000000000) (hr0 : 0 ≤ room) (hr : room ≤ 1000000000) (n : Int) (b : List UInt8) (B : ByteArray) (hb : B = ⟨b.toArray⟩) (c : Nat) (L' : List Pt) (hc : c = appCode down room L n b.length) (hL' : L' = if c = 0 then pAppend n b L else L) :
    Calls Try.prog 14 #[.pointer (some ⟨m, 0, none⟩), .int .i64 n, .string B] w fun e w' => e = .returned (.int .i64 (c : Int)) ∧ Ref w' m (Gr M w w') room down L' ∧ Kp M w w' := by
  have hBs : B.size = b.length := by rw [hb]; rfl
  have keep : ∀ {e : Ending} {w1 : World} (z : Nat), z ≠ 0 → c = z → e = .returned (.int .i64 (z : Int)) ∧ Kp No w w1 → e = .returned (.int .i64 (c : Int)) ∧ Ref w1 m (Gr M w w1) room down L' ∧ Kp M w w1 := by
    rintro e w1 z hz rfl ⟨rfl, hk⟩
    rw [if_neg hz] at hL'
    subst hL'
    exact ⟨rfl, (h.keep hk).mono (fun k hk => .inl hk) (Gr.lt h.lt hk.size), hk.mono (fun k _ h => h.elim)⟩
  unfold appCode at hc
  cases down with
  | true => exact (rapp_down w m M room L h n B).mono fun e w1 hh => keep 10 (by decide) (by rw [hc]; rfl) hh
  | false =>
    rw [if_neg (by decide)] at hc
    by_cases hn : n < 0
    · rw [if_pos hn] at hc
      exact (rapp_neg w m M room L h n hn B).mono fun e w1 hh => keep 1 (by decide) hc hh
    · rw [if_neg hn] at hc
      by_cases hB : room - pUsed L < b.length
      · rw [if_pos hB] at hc
        exact (rapp_full w m M room L h hL hU hr0 hr n hn B (by rw [hBs]; exact hB)).mono fun e w1 hh => keep 6 (by decide) hc hh
      · rw [if_neg hB] at hc
        subst hc
        rw [if_pos rfl] at hL'
        rcases rIdx_find n L 0 with ⟨e1, e2⟩ | ⟨q, x, e1, e2, e3⟩
        · unfold pAppend at hL'
          rw [e1] at hL'
          exact rapp_new w m M room L h hL hU hr0 hr n hn b B hb (by rw [hBs]; exact hB) e2 (fun j x hj => by
            have := List.find?_eq_none.1 e1 x (List.mem_of_getElem? hj)
            simpa using this) L' hL'
        · unfold pAppend at hL'
          rw [e1] at hL'
          have hxn : x.n = n := by have := List.find?_some e1; simpa using this
          simp only at hL'
          rw [← hxn, pSet_at hs e2] at hL'
          refine (rapp_same w m M room L h hL hU hr0 hr n hn b B hb (by rw [hBs]; exact hB) q x (by simpa using e3) e2 L' hL').mono ?_
          rintro e w1 ⟨rfl, r1, r2⟩
          exact ⟨rfl, r1.mono (fun k hk => .inl hk) (Gr.lt h.lt r2.size), r2⟩
/-- Crash. -/
theorem refCrash_any (w : World) (m : Nat) (M : Nat → Prop) (room : Int) (down : Bool) (L : List Pt) (h : Ref w m M room down L) (hL : L.length ≤ 1000000000) (hb : ∀ x ∈ L, x.s ≤ x.b.length ∧ x.b.length ≤ 1000000000) (keep : Int) (hk0 : -9223372036854775808 ≤ keep) (hk1 : keep ≤ 9223372036854775807) (L' : List Pt) (hL' : L' = if down then L else pCrash keep.toNat L) :
    Calls Try.prog 21 #[.pointer (some ⟨m, 0, none⟩), .int .i64 keep] w fun e w' => e = .returned (.tuple #[]) ∧ Ref w' m M room true L' ∧ Kp M w w' := by
  cases down with
  | true =>
    rw [if_pos rfl] at hL'
    subst hL'
    refine (refCrash_down w m M room L' h keep).mono ?_
    rintro e w1 ⟨rfl, rfl⟩
    exact ⟨rfl, h, Kp.refl _ _⟩
  | false =>
    rw [if_neg (by decide)] at hL'
    subst hL'
    exact refCrash_up w m M room L h hL hb keep hk0 hk1
end Go.Proofs.Ytnonbimelkagpaa
