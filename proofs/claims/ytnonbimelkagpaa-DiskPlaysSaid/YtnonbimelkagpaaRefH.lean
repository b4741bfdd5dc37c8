/- The reference's disk: Append to a part that is there. -/
import Derived.Test.YtnonbimelkagpaaRefG
namespace Go.Proofs.Ytnonbimelkagpaa
set_option linter.unusedVariables false
set_option linter.unusedSimpArgs false
open Go.RowKit Go.Lib

theorem bstr_append (a b : List UInt8) : (⟨a.toArray⟩ : ByteArray) ++ ⟨b.toArray⟩ = ⟨(a ++ b).toArray⟩ := by
  apply ByteArray.ext
  rw [ByteArray.data_append]
  simp
theorem le_pUsed : ∀ {L : List Pt} {q : Nat} {x : Pt}, L[q]? = some x → x.b.length ≤ pUsed L
  | [], q, x, h => by simp at h
  | y :: r, 0, x, h => by
    simp at h
    subst h
    unfold pUsed
    rw [List.map_cons, List.sum_cons]
    omega
  | y :: r, q + 1, x, h => by
    have := le_pUsed (L := r) (q := q) (x := x) (by simpa using h)
    unfold pUsed at this ⊢
    rw [List.map_cons, List.sum_cons]
    omega
set_option maxHeartbeats 4000000 in
set_option maxRecDepth 100000 in
theorem rapp_same (w1 : World) (m : Nat) (M : Nat → Prop) (room : Int) (L : List Pt) (h : Ref w1 m M room false L) (hL : L.length ≤ 1000000000) (hU : pUsed L ≤ 1000000000) (hr0 : 0 ≤ room) (hr : room ≤ 1000000000) (n : Int) (hn : ¬ n < 0) (b : List UInt8) (B : ByteArray) (hb : B = ⟨b.toArray⟩) (hB : ¬ room - pUsed L < B.size)
    (q : Nat) (x : Pt) (hq : rIdx n L 0 = (q : Int)) (hx : L[q]? = some x) (L' : List Pt) (hL' : L' = L.set q ⟨x.n, x.b ++ b, x.s⟩) :
    Calls Try.prog 14 #[.pointer (some ⟨m, 0, none⟩), .int .i64 n, .string B] w1 fun e w' => e = .returned (.int .i64 0) ∧ Ref w' m M room false L' ∧ Kp M w1 w' := by
  have H := As.mk h
  obtain ⟨_, _, _, c2, _, c0⟩ := h.cells
  have hwr := IntWalk.i64_in (room - (pUsed L : Int)) (by omega)
  have hql : q < L.length := (List.getElem?_eq_some_iff.1 hx).1
  obtain ⟨g, cc, SN⟩ := h.seen (by intro e; rw [e] at hql; simp at hql)
  have AT := As.mk (refAt_any w1.drew m M room false L SN.drew.ref hL n)
  rw [hq] at AT
  obtain ⟨nL, hnL⟩ : ∃ z, z = L.length := ⟨_, rfl⟩
  rw [← hnL] at SN hql
  have S0 := As.mk SN
  have HX := As.mk (And.intro hx (And.intro hL' hb))
  obtain ⟨_, d1, d2, d3⟩ := SN.part hx
  have c1 := SN.row
  have fz := d3 (q * 3 + 1)
  unfold bstr at d1
  obtain ⟨S, hS⟩ : ∃ S : ByteArray, S = ⟨x.b.toArray⟩ := ⟨_, rfl⟩
  have HSB := As.mk hS
  rw [← hS] at d1
  have hSB : ¬ 9223372036854775807 < S.size + B.size := by
    have h1 := le_pUsed hx
    have h2 : S.size = x.b.length := by rw [hS]; rfl
    omega
  have hq0 : (0 : Int) ≤ (q : Int) := by omega
  have hq1 : (q : Int) < (nL : Int) := by omega
  have hq2 : ¬ (q : Int) < 0 := by omega
  clear h hq hx SN hL' hb hS d2 d3 hnL
  go_enter Try.func14, Try.ntmps14
  go_wp2
  refine wp_region_plan (fun w' => w'.cell? ⟨m, 0, none⟩ = some (.int .i64 room) ∧ Ref w' m M room false L) (by kernel_rfl) ?_
  have hS : w1.drew.cell? ⟨m, 0, none⟩ = some (.int .i64 room) ∧ Ref w1.drew m M room false L := ⟨c0, H.out.keep (Kp.refl No w1).drew⟩
  simp only [lexOf, Nat.reduceAdd, List.size_toArray, List.length_cons, List.length_nil, Array.replicate, List.replicate]
  iterate 7
    refine plan_take (v := ?_) rfl (by kernel_rfl) (by rfl) hS ?_ ?_
    rotate_left 1
    · intro w hSw; obtain ⟨hs1, _⟩ := hSw; go_simp
      try with_reducible rfl
    simp only [Act.put, List.setIfInBounds_toArray, List.set_cons_zero, List.set_cons_succ]
  refine plan_do rfl (by kernel_rfl) (by rfl) (fun K hK => ?_)
  go_simp
  go_at_call 24
  refine (refUsed_any _ m M room false L hS.2 hL hU).mono ?_
  rintro e w2 ⟨rfl, rfl⟩
  refine hK.out _ _ hS ?_
  clear K hK
  simp only [Act.put, List.setIfInBounds_toArray, List.set_cons_zero, List.set_cons_succ]
  iterate 2
    refine plan_do_at (v := ?_) rfl (by kernel_rfl) (by rfl) hS ?_ ?_
    rotate_left 1
    · go_simp
      try with_reducible rfl
    simp only [Act.put, List.setIfInBounds_toArray, List.set_cons_zero, List.set_cons_succ]
  refine plan_done (by kernel_rfl) (NoPanic.normal ?_)
  clear hS
  go_wp2_with (go_at_call 35; go_must (refine AT.out.mono ?_; rintro e w3 ⟨rfl, rfl⟩))
  have hS : w1.drew.drew.cell? ⟨m, 1, none⟩ = some (.slice (some ⟨g, 0, none⟩) nL cc) ∧ w1.drew.drew.cell? ⟨g, q * 3 + 1, none⟩ = some (.string S) ∧ w1.drew.drew.frozen? ⟨g, q * 3 + 1, none⟩ = false := ⟨c1, d1, fz⟩
  refine wp_region_planL [17] (fun w' => w'.cell? ⟨m, 1, none⟩ = some (.slice (some ⟨g, 0, none⟩) nL cc) ∧ w'.cell? ⟨g, q * 3 + 1, none⟩ = some (.string S) ∧ w'.frozen? ⟨g, q * 3 + 1, none⟩ = false) (by kernel_rfl) ?_
  simp only [lexOf, Nat.reduceAdd, List.size_toArray, List.length_cons, List.length_nil, Array.replicate, List.replicate]
  iterate 15
    refine planL_take (v := ?_) rfl (by kernel_rfl) (by rfl) hS ?_ ?_
    rotate_left 1
    · intro w hSw; obtain ⟨hs1, hs2, hs3⟩ := hSw; go_simp
      try with_reducible rfl
    simp only [Act.put, List.setIfInBounds_toArray, List.set_cons_zero, List.set_cons_succ]
  iterate 2
    refine planL_do_at (v := ?_) rfl (by kernel_rfl) (by rfl) hS ?_ ?_
    rotate_left 1
    · obtain ⟨hs1, hs2, hs3⟩ := hS; go_simp
      try with_reducible rfl
    simp only [Act.put, List.setIfInBounds_toArray, List.set_cons_zero, List.set_cons_succ]
  refine planL_last rfl (by kernel_rfl) (by decide) (by rfl) (fun K hK => ?_)
  obtain ⟨_, _, hs3⟩ := hS
  go_simp
  refine hK.out _ _ ?_
  clear K hK
  simp only [Act.put, List.setIfInBounds_toArray, List.set_cons_zero, List.set_cons_succ]
  refine planL_done (by kernel_rfl) (NoPanic.normal ?_)
  go_wp2
  go_ret
  obtain ⟨hx, hL', hb⟩ := HX.out
  have T2 := S0.out.drew.drew.turn (p := q * 3 + 1) (by omega) (.string (S ++ B)) L' (by
    rw [hL', show Value.string (S ++ B) = bstr (x.b ++ b) by rw [HSB.out, hb, bstr_append]; rfl]
    exact (ptCells_set L q x hx).1 _) (by rw [hL', List.length_set])
  exact ⟨rfl, T2.1.ref, (Kp.refl M w1).drew.drew.trans T2.2 (fun _ _ h => h)⟩
end Go.Proofs.Ytnonbimelkagpaa
