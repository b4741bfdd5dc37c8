/- wire.Read. -/
import Derived.Test.YtnonbimelkagpaaWireC
namespace Go.Proofs.Ytnonbimelkagpaa
set_option linter.unusedVariables false
set_option linter.unusedSimpArgs false
open Go.RowKit Go.Lib

theorem read_any (F : Nat → Prop) (A : Option Addr) (c : Nat) (l : List UInt8) (w : World) (hr : Rd w F A (u8s l)) (hF : ∀ k, F k → k < w.heap.size) (hl : l.length ≤ 1000000000) (hc : l.length ≤ c) :
    Calls Try.prog 51 #[.slice A l.length c] w fun e w' => e = .returned (.pointer (some ⟨w.heap.size, 0, none⟩)) ∧ IsR 110 w' w.heap.size F l ⟨0, none⟩ ∧ Kp No w w' ∧ w'.heap.size = w.heap.size + 1 := by
  have R := As.mk hr
  clear hr
  go_enter Try.func51, Try.ntmps51
  go_wp2
  go_ret
  refine ⟨rfl, ⟨A, c, 0, 0, blk_new _ _ _, R.out.keep ((Kp.refl No w).alloc _), fun h => absurd (hF _ h) (Nat.lt_irrefl _), hl, hc, fun _ => ⟨rfl, Nat.zero_le _⟩, (fun q h => by cases h)⟩, (Kp.refl No w).alloc _, by simp⟩

end Go.Proofs.Ytnonbimelkagpaa
