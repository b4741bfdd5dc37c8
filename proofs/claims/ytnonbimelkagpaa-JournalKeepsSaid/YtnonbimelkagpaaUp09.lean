/- The head of the statements of layer 9: true. -/
import Derived.Test.YtnonbimelkagpaaLaw09
namespace Go.Proofs.Ytnonbimelkagpaa
set_option linter.unusedVariables false
set_option linter.unusedSimpArgs false
open Go.RowKit Go.Lib

set_option maxHeartbeats 4000000 in
set_option maxRecDepth 100000 in
theorem up09 (w : World) : Calls Try.prog 26 #[] w fun e w' => e = .returned (.bool true) ∧ Kp No w w' := by
  have ce1 := codes_eq 1 1
  have T1 := As.mk trivial
  have henc := As.mk (show enc [97] = [1, 97] by unfold enc; rw [num_lt (by decide)]; rfl)
  have hML := As.mk (show Mild ([] : List Int) from ⟨by simp, fun p hp => by cases hp⟩)
  have hML1 := As.mk (show Mild [0] from ⟨by simp, fun p hp => by rw [List.mem_singleton.1 hp]; omega⟩)
  have kc := fun (w : World) (C : Array Value) (n c : Nat) => Lib.run_convert_bytes_const (P := Try.prog) w 22 5 C n c Try.underlying22 Try.underlying5
  go_enter Try.func26, Try.ntmps26
  go_wp2_with (first
    | (go_at_call 7; go_must (
        refine (disk_new 100 _ (by decide) (by decide)).mono ?_
        rintro e w1 ⟨d, rfl, hd, h1, k1⟩
        have D1 := As.mk h1
        have K1 := As.mk k1
        clear h1 k1))
    | (go_at_call 27; have _t := T1; go_must (
        refine (jat_open w w1 d _ 100 false [] 2 D1.out (fun k hk => hk.1) K1.out (by decide) (fun x hx => by cases hx) (by decide) (by decide) [] [] [] rfl).mono ?_
        rintro e w2 ⟨j, rfl, hj⟩
        have J2 := As.mk hj
        clear hj T1))
    | (go_at_call 27; go_must (
        refine (open_nil _ 2).mono ?_
        rintro e w3 ⟨rfl, rfl⟩)))
  go_wp2_with (first
    | (go_at_call 28; go_must (
        obtain ⟨⟨J, D, g1, g2, g3⟩, g4⟩ := J2.out
        have hJl := g1.lt
        have hDl := g1.dsk.lt
        refine (jappend_first _ j J d D 100 [] 2 [] [] (g1.keep ((Kp.refl _ _).alloc _)) hML.out (by decide) (by decide) _ _ 1 1 [97] (Rd.lit w3 [97] 5 (1, 2)) rfl (by decide) (by decide) (fun k hk hd => by have := hDl k hd; omega) (fun k hk hd => by have := hJl k hd; omega) (fun k hk => by rw [hk]; simp) rfl rfl [] rfl (by decide) (by simp) (by rw [henc.out]; rfl)).mono ?_
        rintro e w4 ⟨rfl, hp⟩
        have J4 := As.mk (jat_append_post g2 g3 (g4.alloc _) hp)
        clear g1 g2 g3 g4 hp hJl hDl J2))
    | (go_at_call 32; go_must (
        refine (jat_rec J4.out hML1.out (by decide) 0 0 rfl [97] rfl 1 rfl (by decide)).mono ?_
        rintro e w5 ⟨A, c, rfl, r5, k5⟩
        have hcv : (convert 22 9 (.slice A 1 c)).run Try.prog w5 = .ok (.string ⟨#[97]⟩) w5 := conv8 (c := c) r5
        have hcv2 : ∀ q, (convert 22 9 (.slice A 1 c)).run Try.prog (w5.drewN q) = .ok (.string ⟨#[97]⟩) (w5.drewN q) := fun q => conv8 (c := c) (l := [97]) (r5.keep ((Kp.refl _ _).drewN q))
        have J5 := As.mk (J4.out.keep k5)
        clear r5 k5 J4))
    | (go_at_call 30; go_must (
        refine (jat_first J5.out 0 rfl).mono ?_
        rintro e w6 ⟨rfl, rfl⟩))
    | (go_at_call 31; go_must (
        refine (jat_next J5.out hML1.out (by decide) 1 rfl).mono ?_
        rintro e w7 ⟨rfl, q, rfl⟩)))
  go_ret
  exact ⟨rfl, (J5.out.kp).drewN _⟩
end Go.Proofs.Ytnonbimelkagpaa
