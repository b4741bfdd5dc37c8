/- nogginlaw00.Code of an error of the disk; nogginlaw08.pick. -/
import Derived.Test.YtnonbimelkagpaaRefI
import Derived.Test.YtnonbimelkagpaaLaw08
namespace Go.Proofs.Ytnonbimelkagpaa
set_option linter.unusedVariables false
set_option linter.unusedSimpArgs false
open Go.RowKit Go.Lib

set_option maxHeartbeats 1000000 in
set_option maxRecDepth 100000 in
theorem code_any (w : World) (c : Nat) (hc : c ≤ 10) (E : Value) (hE : E = errV c) :
    Calls Try.prog 22 #[E] w fun e w' => e = .returned (.int .i64 (c : Int)) ∧ w' = w := by
  by_cases h0 : c = 0
  · subst h0
    replace hE : E = .nilIface := hE
    subst hE
    go_enter Try.func22, Try.ntmps22
    go_wp2
    go_ret
    exact ⟨rfl, rfl⟩
  · replace hE : E = .iface 36 (.int .i64 (c : Int)) := by rw [hE, errV, if_neg h0]; rfl
    subst hE
    go_enter Try.func22, Try.ntmps22
    go_wp2
    go_loop [3] (fun vi => ∃ i : Nat, vi = .int .i64 (i : Int) ∧ 1 ≤ i ∧ i ≤ c) (fun vi => c - (intOf vi).toNat)
    case atStart => exact ⟨1, rfl, Nat.le_refl _, by omega⟩
    case round =>
      obtain ⟨i, rfl, h1, hi⟩ := hrel
      have hi10 : i ≤ 10 := by omega
      by_cases he : c = i
      · subst he
        have hce : ∀ w, (binOp .eql 26 (.iface 36 (.int .i64 (c : Int))) (.iface 36 (.int .i64 (c : Int)))).run Try.prog w = .ok (.bool true) w := fun w => by rw [codes_eq]; simp
        go_wp2
        go_ret
        exact ⟨rfl, rfl⟩
      · have hce : ∀ w, (binOp .eql 26 (.iface 36 (.int .i64 (c : Int))) (.iface 36 (.int .i64 (i : Int)))).run Try.prog w = .ok (.bool false) w := fun w => by
          rw [codes_eq, show ((c : Int) == (i : Int)) = false by rw [beq_eq_false_iff_ne]; omega]
        go_wp2
        go_round
        case rel => exact ⟨i + 1, by go_num, by omega, by omega⟩
        case measure => simp [intOf]; omega
def pickV (c : Int) : Int := (if c < 0 then -(c + 1) else c) % 8
theorem pickV_lt (c : Int) : 0 ≤ pickV c ∧ pickV c < 8 := by unfold pickV; omega
theorem pick_any (w : World) (c : Int) (h0 : -9223372036854775808 ≤ c) (h1 : c ≤ 9223372036854775807) (k : Int) (hk : k = pickV c) :
    Calls Try.prog 13 #[.int .i64 c, .int .i64 8] w fun e w' => e = .returned (.int .i64 k) ∧ w' = w := by
  unfold pickV at hk
  by_cases hn : c < 0
  · rw [if_pos hn] at hk
    have hwr := IntWalk.i64_in (c + 1) (by omega)
    have hwr2 := IntWalk.i64_in (-(c + 1)) (by omega)
    have e : Int.tmod (-(c + 1)) 8 = k := by rw [hk]; exact Int.tmod_eq_emod_of_nonneg (by omega)
    have hwr3 := IntWalk.i64_in (Int.tmod (-(c + 1)) 8) (by omega)
    have HE := As.mk (show -Int.tmod (c + 1) 8 = k by rw [← e, Int.neg_tmod])
    clear hk e
    go_enter Try.func13, Try.ntmps13
    go_wp2
    go_ret
    exact ⟨by rw [← HE.out]; rfl, rfl⟩
  · rw [if_neg hn] at hk
    have e : Int.tmod c 8 = k := by rw [hk]; exact Int.tmod_eq_emod_of_nonneg (by omega)
    have hwr3 := IntWalk.i64_in (Int.tmod c 8) (by omega)
    have HE := As.mk hk
    clear hk e
    go_enter Try.func13, Try.ntmps13
    go_wp2
    go_ret
    exact ⟨by rw [HE.out]; rfl, rfl⟩
end Go.Proofs.Ytnonbimelkagpaa
