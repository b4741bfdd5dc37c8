/- JournalKeeps: RECOVERY: opened again behind a crash a journal has all records that were synced, and of the others the first ones; the statement holds at every input. -/
import Derived.Test.YtnonbimelkagpaaPlainKit
import Derived.Test.YtnonbimelkagpaaJKeeps
namespace Go.Proofs.Ytnonbimelkagpaa
set_option linter.unusedVariables false
set_option linter.unusedSimpArgs false
open Go.ChangeShapes Go.WideShapes Go.ChangeAt Go.RowKit Go.Deep
/-- Bytes, out of what is read at a place. -/
theorem u8s_of_trod {H : Type} {enc : TypeId × Value → H} {P : Program} {W : World} {t e : TypeId} (ht : P.underlying t = some (.slice e)) (he : P.underlying e = some (.int .u8)) (hc : P.cellsOf e = 1) {v : Value} {fuel : Nat} {x : DataW H × List MemPlace}
    (h : DataW.trod enc P W 0 (fun _ => true) true fuel t [v] = some x) : ∃ (A : Option Addr) (l : List UInt8) (c : Nat), v = .slice A l.length c ∧ Rd W (fun k => k < W.heap.size) A (u8s l) := by
  rcases open_ints ht he hc h with ⟨hcs, _⟩ | ⟨a, len, cap, zs, hcs, _, hl, hm, hz, hx, hcell, hwz⟩
  · injection hcs with h1 h2
    subst h1
    exact ⟨none, [], 0, rfl, Rd.nil _ _ _⟩
  · injection hcs with h1 h2
    subst h1
    simp only [if_true] at hz
    have hlen : ((zs.take len).map fun z => UInt8.ofNat z.toNat).length = len := by rw [List.length_map, List.length_take]; omega
    refine ⟨some a, (zs.take len).map fun z => UInt8.ofNat z.toNat, cap, by rw [hlen], fun hp => ⟨a, rfl, ?_, fun j u hu => ?_⟩⟩
    · have h0 : 0 < zs.length := by rw [u8s_length, hlen] at hp; omega
      have := World.block_lt_of_cell? W _ (hcell 0 h0)
      rw [add_block] at this
      exact this
    · have hj : j < len := by have := (List.getElem?_eq_some_iff.1 hu).1; rw [u8s_length, hlen] at this; exact this
      rw [hcell j (by omega)]
      have hz2 : zs[j]? = some (zs[j]'(by omega)) := List.getElem?_eq_getElem _
      have hw := hwz _ (List.mem_of_getElem? hz2)
      have hb := bounds_u8 hw
      rw [u8s_get (x := UInt8.ofNat (zs[j]'(by omega)).toNat) (by simp [List.getElem?_take, hj, hz2])] at hu
      rw [← hu, List.getD_eq_getElem?_getD, hz2, Option.getD_some, UInt8.toNat_ofNat_of_lt' (by show _ < 256; omega), Int.toNat_of_nonneg (by omega)]
set_option maxRecDepth 100000 in
theorem open_recs {H : Type} {enc : TypeId × Value → H} {W : World} {base : Nat} {v : Value} {d : DataW H} {p : List MemPlace} (hv : Value.okWide Try.prog W .any base 56 v)
    (h : DataW.Trod enc Try.prog W 0 (fun _ => true) true 56 v d p) : ∃ (A : Option Addr) (ls : Rcs) (c : Nat), v = .slice A ls.length c ∧ ArgRows W (fun k => k < W.heap.size) A ls := by
  obtain ⟨a0, len, cap, rfl⟩ := okWide_slice Try.underlying56 hv
  obtain ⟨fuel, hf⟩ := h
  rcases open_slice Try.underlying56 hf with ⟨hcs, _⟩ | ⟨a, len', cap', m, n, D, Pl, hcs, hb, hl, hm, hmm, hx, hi⟩
  · simp [Value.cells] at hcs
    obtain ⟨rfl, rfl, rfl⟩ := hcs
    exact ⟨none, [], 0, rfl, fun h => absurd rfl h⟩
  · simp [Value.cells] at hcs
    obtain ⟨rfl, rfl, rfl⟩ := hcs
    have hC : Try.prog.cellsOf 22 = 1 := by kernel_rfl
    have each : ∀ i, i < len → ∃ (Ai : Option Addr) (l : List UInt8) (ci : Nat), W.cell? (a.add i) = some (.slice Ai l.length ci) ∧ Rd W (fun k => k < W.heap.size) Ai (u8s l) := by
      intro i hil
      obtain ⟨cs', hc, ht'⟩ := hi i (by split at hmm <;> omega)
      rw [hC] at hc
      obtain ⟨_, hcl, hat⟩ := World.cells?_some hc
      have h0 := hat 0 (by decide)
      have hl1 : cs'.length = 1 := hcl
      obtain ⟨u, rfl⟩ : ∃ u, cs' = [u] := by
        match cs', hl1 with
        | [u], _ => exact ⟨u, rfl⟩
      obtain ⟨Ai, l, ci, rfl, hrd⟩ := u8s_of_trod Try.underlying22 Try.underlying5 (by kernel_rfl) ht'
      refine ⟨Ai, l, ci, ?_, hrd⟩
      have e : (a.add (i * 1)).add 0 = a.add i := by rw [add_add']; simp
      rw [← e]
      simpa using h0
    obtain ⟨f, hfs⟩ : ∃ f : Nat → List UInt8, ∀ i, i < len → ∃ Ai ci, W.cell? (a.add i) = some (.slice Ai (f i).length ci) ∧ Rd W (fun k => k < W.heap.size) Ai (u8s (f i)) := by
      refine ⟨fun i => if h : i < len then Classical.choose (Classical.choose_spec (each i h)) else [], fun i h => ?_⟩
      obtain ⟨ci, hc⟩ := Classical.choose_spec (Classical.choose_spec (each i h))
      simp only [h, dite_true]
      exact ⟨_, ci, hc⟩
    refine ⟨some a, (List.range len).map f, cap, by simp, fun hne => ?_⟩
    have hlen : 0 < len := by
      rcases Nat.eq_zero_or_pos len with h0 | h0
      · subst h0; simp at hne
      · exact h0
    obtain ⟨b, o, spot⟩ := a
    have hspot : spot = none := by
      obtain ⟨A0, c0, hc0, _⟩ := hfs 0 hlen
      simpa [Addr.add] using World.cell?_spot hc0
    subst hspot
    refine ⟨b, o, rfl, fun i r hi => ?_⟩
    have hil : i < len := by have := (List.getElem?_eq_some_iff.1 hi).1; simpa using this
    have hr : r = f i := by rw [List.getElem?_map, List.getElem?_range hil] at hi; simpa using hi.symm
    subst hr
    obtain ⟨Ai, ci, hc, hrd⟩ := hfs i hil
    rw [add_plain'] at hc
    exact ⟨Ai, ci, hc, World.block_lt_of_cell? W _ hc, hrd⟩
end Go.Proofs.Ytnonbimelkagpaa
namespace Go.Proofs.Ytnonbimelkagpaa.journalKeeps
set_option linter.unusedVariables false
set_option linter.unusedSimpArgs false
open Go.ChangeShapes Go.WideShapes Go.ChangeAt Go.RowKit

noncomputable def startWorld (os : Os) : World := World.holding Try.prog os ⟨#[], #[], []⟩
theorem laid_met (os : Os) (args : Array Value) : laidMetH Try.prog Rows.journalKeepsRow.laid ((startWorld os).forCall (fun _ _ => 0) ⟨#[], args, []⟩).memory :=
  laidMetH_of_parts (laidMet_nil _ _) (by kernel_rfl)
theorem reads (os : Os) {H : Type} (enc : TypeId × Value → H) : ∃ places, DataW.whole enc Try.prog ((startWorld os).forCall (fun _ _ => 0) ⟨#[], #[.int .i64 0, .slice none 0 0, .int .i64 0, .int .i64 0], []⟩).memory Try.f5.params.toList Rows.journalKeepsSpec.vars false #[Value.int .i64 0, .slice none 0 0, .int .i64 0, .int .i64 0].toList 8 = some ([.lit (.int .i64 0), .nil, .lit (.int .i64 0), .lit (.int .i64 0)], [], places) :=
  ⟨[], by kernel_rfl⟩

set_option maxRecDepth 100000 in
theorem lifted (os : Os) (started : os.Started) (H : Type) (enc : TypeId × Value → H) (F : Stop.Interp) :
    ReturnsInHanded {} Try.checked os 5 .any ((OpenSpec.ofChange Rows.journalKeepsSpec).preRow enc Try.prog Try.f5 Rows.journalKeepsRow.domain false Rows.journalKeepsRow.laid) (((OpenSpec.ofChange Rows.journalKeepsSpec).at F).post enc Try.prog Try.f5 false true false false) := by
  obtain ⟨places, hx⟩ := reads os enc
  refine returnsInHanded_of_row (C := Try.checked) (s := OpenSpec.ofChange Rows.journalKeepsSpec) own_knob started (by kernel_rfl) Try.func5
    (witness_row_at (enc := enc) (C := Try.checked) false (startWorld os) #[.int .i64 0, .slice none 0 0, .int .i64 0, .int .i64 0] rfl (by kernel_rfl) (by kernel_rfl) (by kernel_rfl)
      (OpenSpec.preRow_of_cond 8 hx (by kernel_rfl) (fun k hk => by cases hk) (by kernel_rfl) (laid_met os _))) ?_
  intro W base args ds gs before hval0 hW _ _ hsz _ _ _
  have hval : ∀ (j : Nat) t v, Try.f5.params[j]? = some t → args[j]? = some v → Value.okWide Try.prog W .any base t v := hval0
  have hW' := hW
  obtain ⟨p, q, hA0, hV, rfl, hfz, hnd⟩ := hW
  have hA : DataW.TrodAll enc Try.prog W 0 (fun _ => true) true Try.f5.params.toList args.toList ds p := hA0
  rw [Try.params5] at hA hval hsz
  obtain ⟨v0, vs0, d0, ds0, p0, q0, hargs, rfl, rfl, h0, r0⟩ := trodAll_cons hA
  obtain ⟨v1, vs1, d1, ds1, p1, q1, rfl, rfl, rfl, h1, r1⟩ := trodAll_cons r0
  obtain ⟨v2, vs2, d2, ds2, p2, q2, rfl, rfl, rfl, h2, r2⟩ := trodAll_cons r1
  obtain ⟨v3, vs3, d3, ds3, p3, q3, rfl, rfl, rfl, h3, r3⟩ := trodAll_cons r2
  obtain ⟨rfl, rfl, rfl⟩ := trodAll_nil r3
  obtain rfl : args = #[v0, v1, v2, v3] := by cases args; simp_all
  obtain ⟨rfl, rfl⟩ := trodVars_none hV
  obtain ⟨a0, rfl, rfl, rfl, w0⟩ := open_int Try.underlying3 (hval 0 3 v0 rfl rfl) h0
  obtain ⟨A, ls, c, rfl, hls⟩ := open_recs (hval 1 56 v1 rfl rfl) h1
  obtain ⟨a2, rfl, rfl, rfl, w2⟩ := open_int Try.underlying3 (hval 2 3 v2 rfl rfl) h2
  obtain ⟨a3, rfl, rfl, rfl, w3⟩ := open_int Try.underlying3 (hval 3 3 v3 rfl rfl) h3
  have b3 := bounds_i64 w3
  clear hval0
  simp only [List.append_nil, List.nil_append] at hW' hA0
  have hC : Calls Try.prog 5 #[.int .i64 a0, .slice A ls.length c, .int .i64 a2, .int .i64 a3] W fun e w' => e = .returned (.bool true) ∧ Kp No W w' := by
    by_cases hoff : 30 < ls.length ∨ a2 < 0 ∨ (ls.length : Int) < a2
    · exact keeps_off W a0 A _ c a2 a3 hoff
    · by_cases hm : a0 < 1 ∨ 100 < a0
      · exact keeps_many W a0 A _ c a2 a3 (by omega) (by omega) (by omega) hm
      · obtain ⟨m, rfl⟩ := Int.eq_ofNat_of_zero_le (show 0 ≤ a0 by omega)
        obtain ⟨sy, rfl⟩ := Int.eq_ofNat_of_zero_le (show 0 ≤ a2 by omega)
        exact keeps_on W m A _ c ls sy a3 (fun k => k < W.heap.size) hls rfl (fun k hk => hk) (by omega) (by omega) (by omega) (by omega) (by omega) (by omega)
  refine hC.mono fun e W' ⟨he, hk⟩ => ?_
  subst he
  refine ⟨_, rfl, _, _, _, [], p1, [], hW', ?_, ?_, ?_, hk.below.frame _, fun h => by cases h⟩
  · exact trodAll_mk1 (shut_bool Try.underlying4 true)
  · refine trodAll_below laid_out hk.below (by kernel_rfl) hA0 (fun x hx => ?_)
    simpa using hW'.lt x (by simpa using hx)
  · rfl

/-- THE STATEMENT. -/
theorem proved : Rows.JournalKeepsSaid :=
  OpenClaim.holds_of_cond 5 Try.f5 rfl rfl rfl rfl rfl rfl rfl ⟨rfl, rfl, rfl, rfl, rfl⟩ rfl rfl rfl rfl rfl (by kernel_rfl) Try.func5 (by kernel_rfl)
    (of_decide_eq_true (by kernel_rfl)) (by unfold Func.isWrapper; first | (rw [if_pos (by decide +kernel)]; kernel_rfl) | (rw [if_neg (by decide +kernel)]; exact ⟨rfl, rfl⟩))
    (fun os started H enc _ F => by rw [OpenClaim.pre_eq_preRow]; exact lifted os started H enc F)
#print axioms proved
end Go.Proofs.Ytnonbimelkagpaa.journalKeeps
