/- DiskLasts: what was synced stays, however it goes down; of what is behind the first bytes stay, no more than are told; the statement holds at every input. -/
import Derived.Test.YtnonbimelkagpaaPlainKit
import Derived.Test.YtnonbimelkagpaaLasts
namespace Go.Proofs.Ytnonbimelkagpaa.diskLasts
set_option linter.unusedVariables false
set_option linter.unusedSimpArgs false
open Go.ChangeShapes Go.WideShapes Go.ChangeAt Go.RowKit
open Go.ChangeMaps (open_string shut_string)

noncomputable def startWorld (os : Os) : World := World.holding Try.prog os ⟨#[], #[], []⟩
theorem laid_met (os : Os) (args : Array Value) : laidMetH Try.prog Rows.diskLastsRow.laid ((startWorld os).forCall (fun _ _ => 0) ⟨#[], args, []⟩).memory :=
  laidMetH_of_parts (laidMet_nil _ _) (by kernel_rfl)
theorem reads (os : Os) {H : Type} (enc : TypeId × Value → H) : ∃ places, DataW.whole enc Try.prog ((startWorld os).forCall (fun _ _ => 0) ⟨#[], #[.slice none 0 0, .slice none 0 0, .slice none 0 0, .int .i64 0], []⟩).memory Try.f3.params.toList Rows.diskLastsSpec.vars false #[Value.slice none 0 0, .slice none 0 0, .slice none 0 0, .int .i64 0].toList 8 = some ([.nil, .nil, .nil, .lit (.int .i64 0)], [], places) :=
  ⟨[], by kernel_rfl⟩

set_option maxRecDepth 100000 in
theorem lifted (os : Os) (started : os.Started) (H : Type) (enc : TypeId × Value → H) (F : Stop.Interp) :
    ReturnsInHanded {} Try.checked os 3 .any ((OpenSpec.ofChange Rows.diskLastsSpec).preRow enc Try.prog Try.f3 Rows.diskLastsRow.domain false Rows.diskLastsRow.laid) (((OpenSpec.ofChange Rows.diskLastsSpec).at F).post enc Try.prog Try.f3 false true false false) := by
  obtain ⟨places, hx⟩ := reads os enc
  refine returnsInHanded_of_row (C := Try.checked) (s := OpenSpec.ofChange Rows.diskLastsSpec) own_knob started (by kernel_rfl) Try.func3
    (witness_row_at (enc := enc) (C := Try.checked) false (startWorld os) #[.slice none 0 0, .slice none 0 0, .slice none 0 0, .int .i64 0] rfl (by kernel_rfl) (by kernel_rfl) (by kernel_rfl)
      (OpenSpec.preRow_of_cond 8 hx (by kernel_rfl) (fun k hk => by cases hk) (by kernel_rfl) (laid_met os _))) ?_
  intro W base args ds gs before hval0 hW _ _ hsz _ _ _
  have hval : ∀ (j : Nat) t v, Try.f3.params[j]? = some t → args[j]? = some v → Value.okWide Try.prog W .any base t v := hval0
  have hW' := hW
  obtain ⟨p, q, hA0, hV, rfl, hfz, hnd⟩ := hW
  have hA : DataW.TrodAll enc Try.prog W 0 (fun _ => true) true Try.f3.params.toList args.toList ds p := hA0
  rw [Try.params3] at hA hval hsz
  obtain ⟨v0, vs0, d0, ds0, p0, q0, hargs, rfl, rfl, h0, r0⟩ := trodAll_cons hA
  obtain ⟨v1, vs1, d1, ds1, p1, q1, rfl, rfl, rfl, h1, r1⟩ := trodAll_cons r0
  obtain ⟨v2, vs2, d2, ds2, p2, q2, rfl, rfl, rfl, h2, r2⟩ := trodAll_cons r1
  obtain ⟨v3, vs3, d3, ds3, p3, q3, rfl, rfl, rfl, h3, r3⟩ := trodAll_cons r2
  obtain ⟨rfl, rfl, rfl⟩ := trodAll_nil r3
  obtain rfl : args = #[v0, v1, v2, v3] := by cases args; simp_all
  obtain ⟨rfl, rfl⟩ := trodVars_none hV
  obtain ⟨Aa, a, ca, rfl, ha1, ha2, ha3⟩ := open_u8s_sized Try.underlying22 Try.underlying5 (by kernel_rfl) (by kernel_rfl) (hval 0 22 v0 rfl rfl) hsz (j := 0) rfl rfl h0
  obtain ⟨Ab, b, cb, rfl, hb1, hb2, hb3⟩ := open_u8s_sized Try.underlying22 Try.underlying5 (by kernel_rfl) (by kernel_rfl) (hval 1 22 v1 rfl rfl) hsz (j := 1) rfl rfl h1
  obtain ⟨Ac, c, cc, rfl, hc1, hc2, hc3⟩ := open_u8s_sized Try.underlying22 Try.underlying5 (by kernel_rfl) (by kernel_rfl) (hval 2 22 v2 rfl rfl) hsz (j := 2) rfl rfl h2
  obtain ⟨a3, rfl, rfl, rfl, w3⟩ := open_int Try.underlying3 (hval 3 3 v3 rfl rfl) h3
  have b3 := bounds_i64 w3
  clear hval0
  simp only [List.append_nil] at hW' hA0
  have hC : Calls Try.prog 3 #[.slice Aa a.length ca, .slice Ab b.length cb, .slice Ac c.length cc, .int .i64 a3] W fun e w' => e = .returned (.bool true) ∧ Kp No W w' := by
    by_cases hb : a.length + b.length + c.length ≤ 5000
    · exact lasts_small (fun k => k < W.heap.size) Aa Ab Ac _ _ _ ca cb cc a b c a3 W rfl rfl rfl ha3 hb3 hc3 hb1 hc1 (by omega) (by omega) hb
    · exact lasts_big (fun k => k < W.heap.size) Aa Ab Ac _ _ _ ca cb cc a3 W ha2 hb2 hc2 (by omega)
  refine hC.mono fun e W' ⟨he, hk⟩ => ?_
  subst he
  refine ⟨_, rfl, _, _, _, [], p0 ++ (p1 ++ p2), [], hW', ?_, ?_, ?_, hk.below.frame _, fun h => by cases h⟩
  · exact trodAll_mk1 (shut_bool Try.underlying4 true)
  · refine trodAll_below laid_out hk.below (by kernel_rfl) hA0 (fun x hx => ?_)
    simpa using hW'.lt x (by simpa using hx)
  · rfl

/-- THE STATEMENT. -/
theorem proved : Rows.DiskLastsSaid :=
  OpenClaim.holds_of_cond 3 Try.f3 rfl rfl rfl rfl rfl rfl rfl ⟨rfl, rfl, rfl, rfl, rfl⟩ rfl rfl rfl rfl rfl (by kernel_rfl) Try.func3 (by kernel_rfl)
    (of_decide_eq_true (by kernel_rfl)) (by unfold Func.isWrapper; first | (rw [if_pos (by decide +kernel)]; kernel_rfl) | (rw [if_neg (by decide +kernel)]; exact ⟨rfl, rfl⟩))
    (fun os started H enc _ F => by rw [OpenClaim.pre_eq_preRow]; exact lifted os started H enc F)
#print axioms proved
end Go.Proofs.Ytnonbimelkagpaa.diskLasts
