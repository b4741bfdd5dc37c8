/- The head of the statements of layer 6: true. -/
import Derived.Test.YtadiedcnkookhaaDoorWireE
import Derived.Test.YtadiedcnkookhaaDoorErrIs
namespace Go.Proofs.YtadiedcnkookhaaDoor
set_option linter.unusedVariables false
set_option linter.unusedSimpArgs false
open Go.RowKit Go.Lib

/-- errors.errorType reads as the program's text lays it. -/
def ErrVar (w : World) : Prop := w.cell? ⟨0, 0, none⟩ = some (.iface 136 (.agg #[.pointer (some ⟨7, 45, none⟩)]))
theorem ErrVar.kp {S : Nat → Prop} {w w1 : World} (h : ErrVar w) (hk : Kp S w w1) (hs : ¬ S 0) : ErrVar w1 := hk.cell h hs
theorem ErrVar.keep {w w1 : World} (h : ErrVar w) (hk : Kp No w w1) : ErrVar w1 := h.kp hk id

theorem read_any (F : Nat → Prop) (A : Option Addr) (c : Nat) (l : List UInt8) (w : World) (hr : Rd w F A (u8s l)) (hF : ∀ k, F k → k < w.heap.size) (hl : l.length ≤ 1000000000) (hc : l.length ≤ c) :
    Calls Tryd.prog 18 #[.slice A l.length c] w fun e w' => e = .returned (.pointer (some ⟨w.heap.size, 0, none⟩)) ∧ IsR 81 w' w.heap.size F l ⟨0, none⟩ ∧ Kp No w w' ∧ w'.heap.size = w.heap.size + 1 := by
  have R := As.mk hr
  clear hr
  go_enter Tryd.func18, Tryd.ntmps18
  go_wp2
  go_ret
  refine ⟨rfl, ⟨A, c, 0, 0, blk_new _ _ _, R.out.keep ((Kp.refl No w).alloc _), fun h => absurd (hF _ h) (Nat.lt_irrefl _), hl, hc, fun _ => ⟨rfl, Nat.zero_le _⟩, (fun q h => by cases h)⟩, (Kp.refl No w).alloc _, by simp⟩

set_option maxHeartbeats 4000000 in
set_option maxRecDepth 100000 in
theorem up06 (w : World) (hg : ErrVar w) : Calls Tryd.prog 11 #[] w fun e w' => e = .returned (.bool true) ∧ Kp No w w' := by
  have G := As.mk hg
  have hcR := As.mk (read_any (fun _ => False) none 0 [] w (Rd.nil _ _ _) (fun _ h => h.elim) (by simp) (by simp))
  have hn : rNum [] ⟨0, none⟩ = (0, ⟨0, some 0⟩) := by simp [rNum, rdGo]
  have he : rEnd [] ⟨0, some 0⟩ = ⟨0, some 0⟩ := rfl
  have hz : num (zig (-1)) = [1] := by rw [show zig (-1) = 1 by decide, num_lt (by decide)]; rfl
  have HN := As.mk hn
  have HE := As.mk he
  have HZ := As.mk hz
  clear hn he hz hg
  go_enter Tryd.func11, Tryd.ntmps11
  go_wp2_with (first
    | (go_at_call 18; go_must (refine hcR.out.mono ?_; rintro e w1 ⟨rfl, hi, hk, hs⟩; have I1 := As.mk hi; have K1 := As.mk hk; have S1 := As.mk hs; clear hi hk hs hcR))
    | (go_at_call 20; go_must (
        refine (rnum_any _ _ _ _ _ I1.out).mono ?_
        rw [HN.out]
        rintro e w2 ⟨rfl, hi, hk⟩
        have I2 := As.mk hi
        have K2 := As.mk (K1.out.trans hk (fun k hlt hs => absurd hs (Nat.ne_of_lt hlt)))
        clear hi hk I1 K1))
    | (go_at_call 13; go_must (
        refine (whole_any (fun _ => False) none 0 0 [] (-1) _ (Rd.nil _ _ _) rfl (by decide) (by decide) (by decide)).mono ?_
        rintro e w3 ⟨v, rfl, ho, hk⟩
        rw [HZ.out] at ho
        obtain ⟨A, c, rfl, _, _, hr⟩ := ho.read
        have hcv := run_conv_str (P := Tryd.prog) w3 22 9 5 Tryd.underlying22 Tryd.underlying5 Tryd.underlying9 1 c [1] rfl hr
        have I3 := As.mk (I2.out.keep hk)
        have K3 := As.mk (K2.out.then_ hk)
        clear ho hk hr I2 K2))
    | (go_at_call 26; go_must (
        refine (rend_any _ _ _ _ _ I3.out).mono ?_
        rw [HE.out]
        rintro e w4 ⟨v4, rfl, ⟨b, rfl, hb⟩, hi, hk⟩
        have B4 := As.mk hb
        have K4 := As.mk (K3.out.trans hk (fun k hlt hs => absurd hs (Nat.ne_of_lt hlt)))
        clear hb hi hk I3 K3))
    | (go_at_call 28; go_must (
        refine (law00_Is b _ _ _ B4.out (G.out.keep K4.out)).mono ?_
        rintro e w5 ⟨rfl, hk⟩
        have K5 := As.mk (K4.out.then_ hk)
        clear hk B4 K4)))
  go_ret
  exact ⟨rfl, K5.out⟩
end Go.Proofs.YtadiedcnkookhaaDoor
