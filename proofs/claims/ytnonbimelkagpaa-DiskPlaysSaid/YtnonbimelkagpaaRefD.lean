/- The reference's disk: Cut. -/
import Derived.Test.YtnonbimelkagpaaRefC
import Derived.Test.YtnonbimelkagpaaPlanL
namespace Go.Proofs.Ytnonbimelkagpaa
set_option linter.unusedVariables false
set_option linter.unusedSimpArgs false
open Go.RowKit Go.Lib

section
variable {P : Program} {ops : Array Oper} {Q : Exit → Act → World → Prop} {md : Region.Mode} {S : World → Prop} {z : List Nat}
theorem planL_do_at {i : Nat} {r : List (Nat × Oper)} {listed : Array Bool} {a : Act} {w : World} {o : Oper} {v : Value} (ho : ops[i]? = some o) (hr : Region.ready md ops listed = [i]) (hw : Region.wanted o (yielded ops a.tmps) = true)
    (hS : S w) (hy : (execOp a.eval o).run P w = .ok (.value v) w) (hk : planL P md ops Q S z r (listed.setIfInBounds i true) (a.put o.dst v) w) : planL P md ops Q S z ((i, o) :: r) listed a w := by
  refine planL_do ho hr hw fun K hK => ?_
  unfold Oper.wp
  rw [hy]
  exact hK _ _ hS hk
end
theorem extract_take (b : List UInt8) (k : Nat) : (⟨b.toArray⟩ : ByteArray).extract 0 k = ⟨(b.take k).toArray⟩ := by
  apply ByteArray.ext
  rw [ByteArray.data_extract]
  simp

theorem rcut_bad (w : World) (m : Nat) (M : Nat → Prop) (room : Int) (down : Bool) (L : List Pt) (h : Ref w m M room down L) (hL : L.length ≤ 1000000000) (n k : Int) (c : Nat) (hc : c = partCode down L n) (h0 : c ≠ 0) :
    Calls Try.prog 17 #[.pointer (some ⟨m, 0, none⟩), .int .i64 n, .int .i64 k] w fun e w' => e = .returned (.int .i64 (c : Int)) ∧ w' = w := by
  have TH := As.mk (there_bad w m M room down L h hL n c hc h0)
  have hb : ((c : Int) != 0) = true := by rw [bne_iff_ne]; omega
  clear h hc h0
  go_enter Try.func17, Try.ntmps17
  go_wp2_with (go_at_call 36; go_must (refine TH.out.mono ?_; rintro e w1 ⟨rfl, rfl⟩))
  go_ret
  exact ⟨rfl, rfl⟩
set_option maxHeartbeats 1000000 in
set_option maxRecDepth 100000 in
theorem rcut_off (w : World) (m : Nat) (M : Nat → Prop) (room : Int) (L : List Pt) (h : Ref w m M room false L) (hL : L.length ≤ 1000000000) (n k : Int) (q : Nat) (x : Pt) (hq : rIdx n L 0 = (q : Int)) (hx : L[q]? = some x) (hk : k < 0 ∨ (x.b.length : Int) < k) :
    Calls Try.prog 17 #[.pointer (some ⟨m, 0, none⟩), .int .i64 n, .int .i64 k] w fun e w' => e = .returned (.int .i64 1) ∧ w' = w := by
  have TH := As.mk (there_ok w m M room L h hL n q hq)
  obtain ⟨v, h1, _, _, h4⟩ := h
  obtain ⟨A, c, rfl, _, _, i3, i4⟩ := pts_see h4
  obtain ⟨_, c1, _, _⟩ := blk3 h1
  have hql : q < L.length := (List.getElem?_eq_some_iff.1 hx).1
  obtain ⟨g, rfl, _⟩ := i3 (by intro e; rw [e] at hql; simp at hql)
  have hcell := (i4 g rfl q x hx).2.1
  unfold bstr at hcell
  obtain ⟨S, hS⟩ : ∃ S : ByteArray, S = ⟨x.b.toArray⟩ := ⟨_, rfl⟩
  have hSz : S.size = x.b.length := by rw [hS]; rfl
  rw [← hS] at hcell
  rw [← hSz] at hk
  obtain ⟨nL, hn⟩ : ∃ z, z = L.length := ⟨_, rfl⟩
  rw [← hn] at c1 hql hL
  have hq0 : (0 : Int) ≤ (q : Int) := by omega
  have hq1 : (q : Int) < (nL : Int) := by omega
  clear h1 h4 i3 i4 hq hx hS hn hSz
  by_cases hk0 : k < 0
  · clear hk
    go_enter Try.func17, Try.ntmps17
    go_wp2_with (go_at_call 36; go_must (refine TH.out.mono ?_; rintro e w1 ⟨rfl, rfl⟩))
    go_ret
    exact ⟨rfl, rfl⟩
  · have hk2 : (S.size : Int) < k := by omega
    clear hk
    go_enter Try.func17, Try.ntmps17
    go_wp2_with (go_at_call 36; go_must (refine TH.out.mono ?_; rintro e w1 ⟨rfl, rfl⟩))
    go_ret
    exact ⟨rfl, rfl⟩
set_option maxHeartbeats 2000000 in
set_option maxRecDepth 100000 in
theorem rcut_on (w : World) (m : Nat) (M : Nat → Prop) (room : Int) (L : List Pt) (h : Ref w m M room false L) (hL : L.length ≤ 1000000000) (n : Int) (k : Nat) (q : Nat) (x : Pt) (hq : rIdx n L 0 = (q : Int)) (hx : L[q]? = some x) (hk : k ≤ x.b.length) (L' : List Pt) (hL' : L' = L.set q ⟨x.n, x.b.take k, k⟩) :
    Calls Try.prog 17 #[.pointer (some ⟨m, 0, none⟩), .int .i64 n, .int .i64 (k : Int)] w fun e w' => e = .returned (.int .i64 0) ∧ Ref w' m M room false L' ∧ Kp M w w' := by
  have TH := As.mk (there_ok w m M room L h hL n q hq)
  obtain ⟨v, h1, h2, h3, h4⟩ := h
  obtain ⟨A, cc, rfl, _, _, i3, i4⟩ := pts_see h4
  have hql : q < L.length := (List.getElem?_eq_some_iff.1 hx).1
  obtain ⟨g, rfl, hg⟩ := i3 (by intro e; rw [e] at hql; simp at hql)
  obtain ⟨_, d1, d2, d3⟩ := i4 g rfl q x hx
  have fz := d3 (q * 3 + 1)
  have fz2 := d3 (q * 3 + 2)
  obtain ⟨_, c1, _, _⟩ := blk3 h1
  unfold bstr at d1
  obtain ⟨S, hS⟩ : ∃ S : ByteArray, S = ⟨x.b.toArray⟩ := ⟨_, rfl⟩
  have hSz : S.size = x.b.length := by rw [hS]; rfl
  rw [← hS] at d1
  have hkS : (k : Int) ≤ (S.size : Int) := by omega
  have hk0 : ¬ (k : Int) < 0 := by omega
  have hk1 : ¬ (S.size : Int) < (k : Int) := by omega
  have hk2 : (0 : Int) ≤ (k : Int) := by omega
  obtain ⟨T, hT⟩ : ∃ T : ByteArray, T = S.extract 0 k := ⟨_, rfl⟩
  have hTe : Value.string T = bstr (x.b.take k) := by rw [hT, hS, extract_take]; rfl
  obtain ⟨nL, hn⟩ : ∃ z, z = L.length := ⟨_, rfl⟩
  rw [← hn] at c1 hql hL
  have hq0 : (0 : Int) ≤ (q : Int) := by omega
  have hq1 : (q : Int) < (nL : Int) := by omega
  have HX := As.mk (And.intro h1 (And.intro h2 (And.intro h3 (And.intro h4 (And.intro hx (And.intro hn (And.intro hg (And.intro hL' hTe))))))))
  clear h1 h2 h3 h4 i3 i4 hq hx hS hSz hn d2 d3 hL' hg hk hTe
  go_enter Try.func17, Try.ntmps17
  go_wp2_with (go_at_call 36; go_must (refine TH.out.mono ?_; rintro e w1 ⟨rfl, rfl⟩))
  refine wp_region_planL [17] (fun w' => w'.cell? ⟨m, 1, none⟩ = some (.slice (some ⟨g, 0, none⟩) nL cc) ∧ w'.cell? ⟨g, q * 3 + 1, none⟩ = some (.string S) ∧ w'.frozen? ⟨g, q * 3 + 1, none⟩ = false) (by kernel_rfl) ?_
  have hS : w1.drew.cell? ⟨m, 1, none⟩ = some (.slice (some ⟨g, 0, none⟩) nL cc) ∧ w1.drew.cell? ⟨g, q * 3 + 1, none⟩ = some (.string S) ∧ w1.drew.frozen? ⟨g, q * 3 + 1, none⟩ = false := ⟨c1, d1, fz⟩
  simp only [lexOf, Nat.reduceAdd, List.size_toArray, List.length_cons, List.length_nil, Array.replicate, List.replicate]
  iterate 15
    refine planL_take (v := ?_) rfl (by kernel_rfl) (by rfl) hS ?_ ?_
    rotate_left 1
    · intro w hSw; obtain ⟨hs1, hs2, hs3⟩ := hSw; go_simp
      try with_reducible rfl
    simp only [Act.put, List.setIfInBounds_toArray, List.set_cons_zero, List.set_cons_succ]
  iterate 2
    refine planL_do_at (v := ?_) rfl (by kernel_rfl) (by rfl) hS ?_ ?_
    rotate_left 1
    · obtain ⟨hs1, hs2, hs3⟩ := hS; go_simp
      try with_reducible rfl
    simp only [Act.put, List.setIfInBounds_toArray, List.set_cons_zero, List.set_cons_succ]
  refine planL_last rfl (by kernel_rfl) (by decide) (by rfl) (fun K hK => ?_)
  obtain ⟨_, _, hs3⟩ := hS
  go_simp
  refine hK.out _ _ ?_
  clear K hK
  simp only [Act.put, List.setIfInBounds_toArray, List.set_cons_zero, List.set_cons_succ]
  refine planL_done (by kernel_rfl) (NoPanic.normal ?_)
  obtain ⟨w2, hw2⟩ : ∃ w2, w2 = w1.drew.setCell ⟨g, q * 3 + 1, none⟩ (.string (S.extract 0 k)) := ⟨_, rfl⟩
  have R1 := As.mk (show (∃ v, w2.heap[m]? = some (.cells #[.int .i64 room, v, .bool false] 40 (0, 0)) ∧ v = .slice (some ⟨g, 0, none⟩) nL cc ∧ M m ∧ (∀ k, M k → k < w2.heap.size) ∧ Own w2 M 54 3 v nL (ptCells (L.set q ⟨x.n, x.b.take k, x.s⟩))) ∧ Kp M w1.drew w2 by
    obtain ⟨h1, h2, h3, h4, hx, hn, hg, hL', hTe⟩ := HX.out
    have := Ref.turn (w := w1.drew) (p := q * 3 + 1) h1 h2 h3 h4 (by omega) (.string (S.extract 0 k)) (L.set q ⟨x.n, x.b.take k, x.s⟩) (by rw [← hT, hTe]; exact (ptCells_set L q x hx).1 _) (by rw [List.length_set])
    rw [hw2, hn]
    rw [List.length_set] at this
    exact this)
  have c1 : w2.cell? ⟨m, 1, none⟩ = some (.slice (some ⟨g, 0, none⟩) nL cc) := by
    obtain ⟨⟨v, a, rfl, _⟩, _⟩ := R1.out
    exact (blk3 a).2.1
  have fz2 : w2.frozen? ⟨g, q * 3 + 2, none⟩ = false := by
    obtain ⟨⟨v, a, rfl, _, _, h4⟩, _⟩ := R1.out
    obtain ⟨h1, h2, h3, h4', hx, hn, hg, hL', hTe⟩ := HX.out
    rw [hn, show L.length = (L.set q ⟨x.n, x.b.take k, x.s⟩).length from (List.length_set ..).symm] at h4
    obtain ⟨A, c2, e1, _, _, _, i4⟩ := pts_see h4
    injection e1 with e1
    exact (i4 g e1.symm q ⟨x.n, x.b.take k, x.s⟩ (by rw [List.getElem?_set_self (by omega)])).2.2.2 _
  have d2k : w2.cell? ⟨g, q * 3 + 2, none⟩ = some (.int .i64 (x.s : Int)) := by
    obtain ⟨⟨v, a, rfl, _, _, h4⟩, _⟩ := R1.out
    obtain ⟨h1, h2, h3, h4', hx, hn, hg, hL', hTe⟩ := HX.out
    rw [hn, show L.length = (L.set q ⟨x.n, x.b.take k, x.s⟩).length from (List.length_set ..).symm] at h4
    obtain ⟨A, c2, e1, _, _, _, i4⟩ := pts_see h4
    injection e1 with e1
    exact (i4 g e1.symm q ⟨x.n, x.b.take k, x.s⟩ (by rw [List.getElem?_set_self (by omega)])).2.2.1
  rw [show (w1.setCell ⟨g, q * 3 + 1, none⟩ (.string (S.extract 0 k))).drew = w1.drew.setCell ⟨g, q * 3 + 1, none⟩ (.string (S.extract 0 k)) from rfl, ← hw2]
  clear d1 hw2
  go_wp2
  go_ret
  obtain ⟨⟨v, a, rfl, b2, b3, b4⟩, kp⟩ := R1.out
  obtain ⟨h1, h2, h3, h4', hx, hn, hg, hL', hTe⟩ := HX.out
  have hln : (L.set q ⟨x.n, x.b.take k, x.s⟩).length = nL := by rw [List.length_set, hn]
  obtain ⟨r1, r2⟩ := Ref.turn (w := w2) (p := q * 3 + 2) (L := L.set q ⟨x.n, x.b.take k, x.s⟩) (by rw [hln]; exact a) b2 b3 (by rw [hln]; exact b4) (by omega) (.int .i64 (k : Int)) L' (by rw [hL']; have := (ptCells_set (L.set q ⟨x.n, x.b.take k, x.s⟩) q ⟨x.n, x.b.take k, x.s⟩ (by rw [List.getElem?_set_self (by omega)])).2 k; rw [List.set_set] at this; exact this) (by rw [hL', List.length_set, List.length_set])
  exact ⟨rfl, Ref.of_turn r1, ((Kp.refl M w1).drew.trans kp (fun _ _ h => h)).trans r2 (fun _ _ h => h)⟩
/-- Cut. -/
theorem refCut_any (w : World) (m : Nat) (M : Nat → Prop) (room : Int) (down : Bool) (L : List Pt) (h : Ref w m M room down L) (hs : PSorted L) (hL : L.length ≤ 1000000000) (n k : Int) (c : Nat) (L' : List Pt) (hc : c = cutCode down L n k) (hL' : L' = if c = 0 then pCut n k.toNat L else L) :
    Calls Try.prog 17 #[.pointer (some ⟨m, 0, none⟩), .int .i64 n, .int .i64 k] w fun e w' => e = .returned (.int .i64 (c : Int)) ∧ Ref w' m M room down L' ∧ Kp M w w' := by
  by_cases h0 : partCode down L n = 0
  · obtain ⟨hd, q, x, hf, hx, hxn, hq⟩ := partCode_at h0
    subst hd
    have hb : pBytes L n = x.b := by unfold pBytes; rw [hf]
    unfold cutCode at hc
    rw [if_pos h0, hb] at hc
    by_cases hk : k < 0 ∨ (x.b.length : Int) < k
    · rw [if_pos hk] at hc
      subst hc
      rw [if_neg (by decide)] at hL'
      subst hL'
      refine (rcut_off w m M room L' h hL n k q x hq hx hk).mono ?_
      rintro e w1 ⟨rfl, rfl⟩
      exact ⟨rfl, h, Kp.refl _ _⟩
    · rw [if_neg hk] at hc
      subst hc
      rw [if_pos rfl, ← hxn, pCut, pSet_at hs hx] at hL'
      obtain ⟨k', rfl⟩ : ∃ k' : Nat, k = (k' : Int) := ⟨k.toNat, by omega⟩
      exact rcut_on w m M room L h hL n k' q x hq hx (by omega) L' (by simpa using hL')
  · have e : c = partCode down L n := by rw [hc]; unfold cutCode; rw [if_neg h0]
    have hne : c ≠ 0 := by rw [e]; exact h0
    rw [if_neg hne] at hL'
    subst hL'
    refine (rcut_bad w m M room down L' h hL n k c e hne).mono ?_
    rintro e w1 ⟨rfl, rfl⟩
    exact ⟨rfl, h, Kp.refl _ _⟩
end Go.Proofs.Ytnonbimelkagpaa
