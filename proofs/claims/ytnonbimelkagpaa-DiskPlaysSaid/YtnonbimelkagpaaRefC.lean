/- The reference's disk: Sync, Cut. -/
import Derived.Test.YtnonbimelkagpaaRefB
namespace Go.Proofs.Ytnonbimelkagpaa
set_option linter.unusedVariables false
set_option linter.unusedSimpArgs false
open Go.RowKit Go.Lib

set_option maxHeartbeats 2000000 in
set_option maxRecDepth 100000 in
theorem refSync_any (w : World) (m : Nat) (M : Nat → Prop) (room : Int) (down : Bool) (L : List Pt) (h : Ref w m M room down L) (hs : PSorted L) (hL : L.length ≤ 1000000000) (n : Int) (c : Nat) (L' : List Pt) (hc : c = partCode down L n) (hL' : L' = if c = 0 then pSync n L else L) :
    Calls Try.prog 15 #[.pointer (some ⟨m, 0, none⟩), .int .i64 n] w fun e w' => e = .returned (.int .i64 (c : Int)) ∧ Ref w' m M room down L' ∧ Kp M w w' := by
  by_cases h0 : c = 0
  · obtain ⟨hd, q, x, _, hx, hxn, hq⟩ := partCode_at (hc.symm.trans h0)
    subst hd
    have TH := As.mk (there_ok w m M room L h hL n q hq)
    rw [if_pos h0, ← hxn, pSync, pSet_at hs hx] at hL'
    subst h0
    have H := As.mk h
    obtain ⟨v, h1, h2, h3, h4⟩ := h
    obtain ⟨A, cc, rfl, _, _, i3, i4⟩ := pts_see h4
    have hql : q < L.length := (List.getElem?_eq_some_iff.1 hx).1
    obtain ⟨g, rfl, hg⟩ := i3 (by intro e; rw [e] at hql; simp at hql)
    obtain ⟨_, d1, d2, d3⟩ := i4 g rfl q x hx
    have fz := d3 (q * 3 + 2)
    have d2k := d2
    obtain ⟨_, c1, _, _⟩ := blk3 h1
    have hmg : m ≠ g := fun e => own_ne h4 h1 (by decide) (by rw [e]; rfl)
    unfold bstr at d1
    obtain ⟨S, hS⟩ : ∃ S : ByteArray, S = ⟨x.b.toArray⟩ := ⟨_, rfl⟩
    have hSz : S.size = x.b.length := by rw [hS]; rfl
    rw [← hS] at d1
    obtain ⟨nL, hn⟩ : ∃ z, z = L.length := ⟨_, rfl⟩
    rw [← hn] at c1 hql hL
    have hq0 : (0 : Int) ≤ (q : Int) := by omega
    have hq1 : (q : Int) < (nL : Int) := by omega
    have HX := As.mk (And.intro h1 (And.intro h2 (And.intro h3 (And.intro h4 (And.intro hx (And.intro hn (And.intro hSz (And.intro hg hL'))))))))
    clear h1 h2 h3 h4 i3 i4 hq hx hxn hS hSz hn d2 d3 hc hL' hg
    go_enter Try.func15, Try.ntmps15
    go_wp2_with (go_at_call 36; go_must (refine TH.out.mono ?_; rintro e w1 ⟨rfl, rfl⟩))
    refine wp_region_plan (fun w' => w'.cell? ⟨m, 1, none⟩ = some (.slice (some ⟨g, 0, none⟩) nL cc) ∧ w'.cell? ⟨g, q * 3 + 1, none⟩ = some (.string S) ∧ w'.frozen? ⟨g, q * 3 + 2, none⟩ = false) (by kernel_rfl) ?_
    have hS : w1.drew.cell? ⟨m, 1, none⟩ = some (.slice (some ⟨g, 0, none⟩) nL cc) ∧ w1.drew.cell? ⟨g, q * 3 + 1, none⟩ = some (.string S) ∧ w1.drew.frozen? ⟨g, q * 3 + 2, none⟩ = false := ⟨c1, d1, fz⟩
    simp only [lexOf, Nat.reduceAdd, List.size_toArray, List.length_cons, List.length_nil, Array.replicate, List.replicate]
    repeat
      refine plan_take (v := ?_) rfl (by kernel_rfl) (by rfl) hS ?_ ?_
      rotate_left 1
      · intro w hSw; obtain ⟨hs1, hs2, hs3⟩ := hSw; go_simp
        try with_reducible rfl
      simp only [Act.put, List.setIfInBounds_toArray, List.set_cons_zero, List.set_cons_succ]
    refine plan_do rfl (by kernel_rfl) (by rfl) (fun K hK => ?_)
    obtain ⟨_, _, hs3⟩ := hS
    go_simp
    refine hK.out _ _ (by go_simp) ?_
    clear K hK
    simp only [Act.put, List.setIfInBounds_toArray, List.set_cons_zero, List.set_cons_succ]
    refine plan_done (by kernel_rfl) (NoPanic.normal ?_)
    go_wp2
    go_ret
    obtain ⟨h1, h2, h3, h4, hx, hn, hSz, hg, hL'⟩ := HX.out
    obtain ⟨r1, r2⟩ := Ref.turn (w := w1.drew) (p := q * 3 + 2) h1 h2 h3 h4 (by omega) (.int .i64 (S.size : Int)) L' (by rw [hL', hSz]; exact (ptCells_set L q x hx).2 _) (by rw [hL', List.length_set])
    exact ⟨rfl, Ref.of_turn r1, (Kp.refl M w1).drew.trans r2 (fun _ _ h => h)⟩
  · have TH := As.mk (there_bad w m M room down L h hL n c hc h0)
    rw [if_neg h0] at hL'
    subst hL'
    have hb : ((c : Int) == 0) = false := by rw [beq_eq_false_iff_ne]; omega
    have H := As.mk h
    clear h hc h0
    go_enter Try.func15, Try.ntmps15
    go_wp2_with (go_at_call 36; go_must (refine TH.out.mono ?_; rintro e w1 ⟨rfl, rfl⟩))
    go_ret
    exact ⟨rfl, H.out, Kp.refl _ _⟩
end Go.Proofs.Ytnonbimelkagpaa
