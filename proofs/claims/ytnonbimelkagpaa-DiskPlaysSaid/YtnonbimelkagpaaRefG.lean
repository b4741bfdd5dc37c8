/- The reference's disk: Append: what is refused. -/
import Derived.Test.YtnonbimelkagpaaRefF
namespace Go.Proofs.Ytnonbimelkagpaa
set_option linter.unusedVariables false
set_option linter.unusedSimpArgs false
open Go.RowKit Go.Lib

theorem rapp_down (w : World) (m : Nat) (M : Nat → Prop) (room : Int) (L : List Pt) (h : Ref w m M room true L) (n : Int) (B : ByteArray) :
    Calls Try.prog 14 #[.pointer (some ⟨m, 0, none⟩), .int .i64 n, .string B] w fun e w' => e = .returned (.int .i64 10) ∧ Kp No w w' := by
  obtain ⟨_, _, _, c2, _, _⟩ := h.cells
  clear h
  go_enter Try.func14, Try.ntmps14
  go_wp2
  go_ret
  exact ⟨rfl, Kp.refl _ _⟩
theorem rapp_neg (w : World) (m : Nat) (M : Nat → Prop) (room : Int) (L : List Pt) (h : Ref w m M room false L) (n : Int) (hn : n < 0) (B : ByteArray) :
    Calls Try.prog 14 #[.pointer (some ⟨m, 0, none⟩), .int .i64 n, .string B] w fun e w' => e = .returned (.int .i64 1) ∧ Kp No w w' := by
  obtain ⟨_, _, _, c2, _, _⟩ := h.cells
  clear h
  go_enter Try.func14, Try.ntmps14
  go_wp2
  go_ret
  exact ⟨rfl, Kp.refl _ _⟩
set_option maxHeartbeats 1000000 in
set_option maxRecDepth 100000 in
theorem rapp_full (w1 : World) (m : Nat) (M : Nat → Prop) (room : Int) (L : List Pt) (h : Ref w1 m M room false L) (hL : L.length ≤ 1000000000) (hU : pUsed L ≤ 1000000000) (hr0 : 0 ≤ room) (hr : room ≤ 1000000000) (n : Int) (hn : ¬ n < 0) (B : ByteArray) (hB : room - pUsed L < B.size) :
    Calls Try.prog 14 #[.pointer (some ⟨m, 0, none⟩), .int .i64 n, .string B] w1 fun e w' => e = .returned (.int .i64 6) ∧ Kp No w1 w' := by
  have H := As.mk h
  obtain ⟨_, _, _, c2, _, c0⟩ := h.cells
  have hwr := IntWalk.i64_in (room - (pUsed L : Int)) (by omega)
  clear h
  go_enter Try.func14, Try.ntmps14
  go_wp2
  refine wp_region_plan (fun w' => w'.cell? ⟨m, 0, none⟩ = some (.int .i64 room) ∧ Ref w' m M room false L) (by kernel_rfl) ?_
  have hS : w1.drew.cell? ⟨m, 0, none⟩ = some (.int .i64 room) ∧ Ref w1.drew m M room false L := ⟨c0, H.out.keep (Kp.refl No w1).drew⟩
  simp only [lexOf, Nat.reduceAdd, List.size_toArray, List.length_cons, List.length_nil, Array.replicate, List.replicate]
  iterate 7
    refine plan_take (v := ?_) rfl (by kernel_rfl) (by rfl) hS ?_ ?_
    rotate_left 1
    · intro w hSw; obtain ⟨hs1, _⟩ := hSw; go_simp
      try with_reducible rfl
    simp only [Act.put, List.setIfInBounds_toArray, List.set_cons_zero, List.set_cons_succ]
  refine plan_do rfl (by kernel_rfl) (by rfl) (fun K hK => ?_)
  go_simp
  go_at_call 24
  refine (refUsed_any _ m M room false L hS.2 hL hU).mono ?_
  rintro e w2 ⟨rfl, rfl⟩
  refine hK.out _ _ hS ?_
  clear K hK
  simp only [Act.put, List.setIfInBounds_toArray, List.set_cons_zero, List.set_cons_succ]
  iterate 2
    refine plan_do_at (v := ?_) rfl (by kernel_rfl) (by rfl) hS ?_ ?_
    rotate_left 1
    · go_simp
      try with_reducible rfl
    simp only [Act.put, List.setIfInBounds_toArray, List.set_cons_zero, List.set_cons_succ]
  refine plan_done (by kernel_rfl) (NoPanic.normal ?_)
  go_wp2
  go_ret
  exact ⟨rfl, (Kp.refl _ _).drew⟩
end Go.Proofs.Ytnonbimelkagpaa
