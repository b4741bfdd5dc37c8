/- DiskPlays: what anything that is done with a disk comes to; the statement holds at every input. -/
import Derived.Test.YtnonbimelkagpaaPlainKit
import Derived.Test.YtnonbimelkagpaaPlaysC
namespace Go.Proofs.Ytnonbimelkagpaa
set_option linter.unusedVariables false
set_option linter.unusedSimpArgs false
open Go.ChangeShapes Go.WideShapes Go.ChangeAt Go.RowKit Go.Deep
section
variable {H : Type} {enc : TypeId × Value → H} {P : Program} {w : World} {base : Nat} {spare : Nat → Bool} {held : Bool}
theorem open_rows2 {t e : TypeId} {fs : Array Field} {fuel : Nat} {cs : List Value} {x : DataW H × List MemPlace} (ht : P.underlying t = some (.slice e)) (he : P.underlying e = some (.struct fs))
    (hone : oneCellFields P fs = true) (hC : P.cellsOf e = fs.size) (h : DataW.trod enc P w base spare held fuel t cs = some x) :
    (cs = [.slice none 0 0]) ∨
    ∃ (a : Addr) (len cap : Nat), cs = [.slice (some a) len cap] ∧ len ≤ cap ∧ cap ≤ maxLen ∧
      ∀ i, i < len → ∀ (j : Nat) (f : Field), fs[j]? = some f → ∃ (v : Value) (n : Nat) (y : DataW H × List MemPlace), w.cell? (a.add (i * fs.size + j)) = some v ∧ DataW.trod enc P w base spare held n f.type [v] = some y := by
  rcases open_slice ht h with ⟨h0, _⟩ | ⟨a, len, cap, m, n, D, Pl, hcs, hb, hl, hm, hmm, hx, hi⟩
  · exact .inl h0
  · refine .inr ⟨a, len, cap, hcs, hl, hm, fun i hil j f hj => ?_⟩
    obtain ⟨cs', hc, ht'⟩ := hi i (by split at hmm <;> omega)
    rw [hC] at hc
    obtain ⟨ys, n', _, _, hlen, hyl, hf⟩ := DataW.trod_struct he ht'
    obtain ⟨_, hcl, hat⟩ := World.cells?_some hc
    obtain ⟨ho, hk⟩ := hone_of hone j f hj
    have hjl : j < fs.size := (Array.getElem?_eq_some_iff.1 hj).1
    have hcell := hat j hjl
    have hv : cs'[j]? = some (cs'[j]'(by omega)) := List.getElem?_eq_getElem (by omega)
    have h1 := hf j f hj
    rw [ho, hk] at h1
    have hone' : (cs'.drop j).take 1 = [cs'[j]'(by omega)] := by
      rw [List.drop_eq_getElem_cons (by omega)]
      rfl
    rw [hone'] at h1
    have hys : ys[j]? = some (ys[j]'(by omega)) := List.getElem?_eq_getElem (by omega)
    refine ⟨_, n', _, ?_, h1.trans hys⟩
    rw [← Go.Deep.add_add, hcell, hv]
end
/-- Bytes, out of what is read at a place. -/
theorem u8s_of_trod2 {H : Type} {enc : TypeId × Value → H} {P : Program} {W : World} {t e : TypeId} (ht : P.underlying t = some (.slice e)) (he : P.underlying e = some (.int .u8)) (hc : P.cellsOf e = 1) {v : Value} {fuel : Nat} {x : DataW H × List MemPlace}
    (h : DataW.trod enc P W 0 (fun _ => true) true fuel t [v] = some x) : ∃ (A : Option Addr) (l : List UInt8) (c : Nat), v = .slice A l.length c ∧ Rd W (fun k => k < W.heap.size) A (u8s l) := by
  rcases open_ints ht he hc h with ⟨hcs, _⟩ | ⟨a, len, cap, zs, hcs, _, hl, hm, hz, hx, hcell, hwz⟩
  · injection hcs with h1 h2
    subst h1
    exact ⟨none, [], 0, rfl, Rd.nil _ _ _⟩
  · injection hcs with h1 h2
    subst h1
    simp only [if_true] at hz
    have hlen : ((zs.take len).map fun z => UInt8.ofNat z.toNat).length = len := by rw [List.length_map, List.length_take]; omega
    refine ⟨some a, (zs.take len).map fun z => UInt8.ofNat z.toNat, cap, by rw [hlen], fun hp => ⟨a, rfl, ?_, fun j u hu => ?_⟩⟩
    · have h0 : 0 < zs.length := by rw [u8s_length, hlen] at hp; omega
      have := World.block_lt_of_cell? W _ (hcell 0 h0)
      rw [add_block] at this
      exact this
    · have hj : j < len := by have := (List.getElem?_eq_some_iff.1 hu).1; rw [u8s_length, hlen] at this; exact this
      rw [hcell j (by omega)]
      have hz2 : zs[j]? = some (zs[j]'(by omega)) := List.getElem?_eq_getElem _
      have hw := hwz _ (List.mem_of_getElem? hz2)
      have hb := bounds_u8 hw
      rw [u8s_get (x := UInt8.ofNat (zs[j]'(by omega)).toNat) (by simp [List.getElem?_take, hj, hz2])] at hu
      rw [← hu, List.getD_eq_getElem?_getD, hz2, Option.getD_some, UInt8.toNat_ofNat_of_lt' (by show _ < 256; omega), Int.toNat_of_nonneg (by omega)]
set_option maxRecDepth 100000 in
theorem open_deeds {H : Type} {enc : TypeId × Value → H} {W : World} {base : Nat} {v : Value} {d : DataW H} {p : List MemPlace} (hv : Value.okWide Try.prog W .any base 35 v)
    (h : DataW.Trod enc Try.prog W 0 (fun _ => true) true 35 v d p) : ∃ (A : Option Addr) (ds : List Dd) (c : Nat), v = .slice A ds.length c ∧ ArgDeeds W (fun k => k < W.heap.size) A ds := by
  obtain ⟨a0, len, cap, rfl⟩ := okWide_slice Try.underlying35 hv
  obtain ⟨fuel, hf⟩ := h
  rcases open_rows2 Try.underlying35 Try.underlying42 (by kernel_rfl) (by kernel_rfl) hf with hcs | ⟨a, len', cap', hcs, hl, hm, hi⟩
  · simp [Value.cells] at hcs
    obtain ⟨rfl, rfl, rfl⟩ := hcs
    exact ⟨none, [], 0, rfl, fun h => absurd rfl h⟩
  · simp [Value.cells] at hcs
    obtain ⟨rfl, rfl, rfl⟩ := hcs
    have each : ∀ i, i < len → ∃ x : Dd, W.cell? (a.add (i * 4)) = some (.int .i64 x.what) ∧ W.cell? (a.add (i * 4 + 1)) = some (.int .i64 x.n) ∧ W.cell? (a.add (i * 4 + 2)) = some (.int .i64 x.size) ∧ W.cell? (a.add (i * 4 + 3)) = some (.slice x.A x.b.length x.c) ∧
        Rd W (fun k => k < W.heap.size) x.A (u8s x.b) ∧ I64 x.what ∧ I64 x.n ∧ I64 x.size := by
      intro i hil
      obtain ⟨v0, n0, y0, hc0, ht0⟩ := hi i hil 0 _ rfl
      obtain ⟨v1, n1, y1, hc1, ht1⟩ := hi i hil 1 _ rfl
      obtain ⟨v2, n2, y2, hc2, ht2⟩ := hi i hil 2 _ rfl
      obtain ⟨v3, n3, y3, hc3, ht3⟩ := hi i hil 3 _ rfl
      obtain ⟨z0, e0, _, w0⟩ := DataW.trod_int Try.underlying3 ht0
      obtain ⟨z1, e1, _, w1⟩ := DataW.trod_int Try.underlying3 ht1
      obtain ⟨z2, e2, _, w2⟩ := DataW.trod_int Try.underlying3 ht2
      injection e0 with e0
      injection e1 with e1
      injection e2 with e2
      subst e0
      subst e1
      subst e2
      obtain ⟨Ai, l, ci, rfl, hrd⟩ := u8s_of_trod2 Try.underlying22 Try.underlying5 (by kernel_rfl) ht3
      have b0 := bounds_i64 w0
      have b1 := bounds_i64 w1
      have b2 := bounds_i64 w2
      exact ⟨⟨z0, z1, z2, Ai, ci, l⟩, hc0, hc1, hc2, hc3, hrd, ⟨by show _ ≤ z0; omega, by show z0 ≤ _; omega⟩, ⟨by show _ ≤ z1; omega, by show z1 ≤ _; omega⟩, ⟨by show _ ≤ z2; omega, by show z2 ≤ _; omega⟩⟩
    obtain ⟨f, hfs⟩ : ∃ f : Nat → Dd, ∀ i, i < len → W.cell? (a.add (i * 4)) = some (.int .i64 (f i).what) ∧ W.cell? (a.add (i * 4 + 1)) = some (.int .i64 (f i).n) ∧ W.cell? (a.add (i * 4 + 2)) = some (.int .i64 (f i).size) ∧ W.cell? (a.add (i * 4 + 3)) = some (.slice (f i).A (f i).b.length (f i).c) ∧
        Rd W (fun k => k < W.heap.size) (f i).A (u8s (f i).b) ∧ I64 (f i).what ∧ I64 (f i).n ∧ I64 (f i).size :=
      ⟨fun i => if h : i < len then Classical.choose (each i h) else ⟨0, 0, 0, none, 0, []⟩, fun i h => by simp only [h, dite_true]; exact Classical.choose_spec (each i h)⟩
    refine ⟨some a, (List.range len).map f, cap, by simp, fun hne => ?_⟩
    have hlen : 0 < len := by
      rcases Nat.eq_zero_or_pos len with h0 | h0
      · subst h0; simp at hne
      · exact h0
    obtain ⟨b, o, spot⟩ := a
    have hspot : spot = none := by
      have := (hfs 0 hlen).1
      simpa [Addr.add] using World.cell?_spot this
    subst hspot
    refine ⟨b, o, rfl, ?_, fun i x hx => ?_⟩
    · have := World.block_lt_of_cell? W _ (hfs 0 hlen).1
      rw [add_block] at this
      exact this
    · have hil : i < len := by have := (List.getElem?_eq_some_iff.1 hx).1; simpa using this
      have hr : x = f i := by rw [List.getElem?_map, List.getElem?_range hil] at hx; simpa using hx.symm
      subst hr
      obtain ⟨c0, c1, c2, c3, hrd, w0, w1, w2⟩ := hfs i hil
      rw [add_plain'] at c0 c1 c2 c3
      refine ⟨fun j v hj => ?_, hrd, w0, w1, w2⟩
      match j, hj with
      | 0, hj => obtain rfl := Option.some.inj hj; exact c0
      | 1, hj => obtain rfl := Option.some.inj hj; exact c1
      | 2, hj => obtain rfl := Option.some.inj hj; exact c2
      | 3, hj => obtain rfl := Option.some.inj hj; exact c3
      | j + 4, hj => simp [ddCells] at hj
end Go.Proofs.Ytnonbimelkagpaa
namespace Go.Proofs.Ytnonbimelkagpaa.diskPlays
set_option linter.unusedVariables false
set_option linter.unusedSimpArgs false
open Go.ChangeShapes Go.WideShapes Go.ChangeAt Go.RowKit

noncomputable def startWorld (os : Os) : World := World.holding Try.prog os ⟨#[], #[], []⟩
theorem laid_met (os : Os) (args : Array Value) : laidMetH Try.prog Rows.diskPlaysRow.laid ((startWorld os).forCall (fun _ _ => 0) ⟨#[], args, []⟩).memory :=
  laidMetH_of_parts (laidMet_nil _ _) (by kernel_rfl)
theorem reads (os : Os) {H : Type} (enc : TypeId × Value → H) : ∃ places, DataW.whole enc Try.prog ((startWorld os).forCall (fun _ _ => 0) ⟨#[], #[.int .i64 0, .slice none 0 0], []⟩).memory Try.f4.params.toList Rows.diskPlaysSpec.vars false #[Value.int .i64 0, .slice none 0 0].toList 8 = some ([.lit (.int .i64 0), .nil], [], places) :=
  ⟨[], by kernel_rfl⟩

set_option maxRecDepth 100000 in
theorem lifted (os : Os) (started : os.Started) (H : Type) (enc : TypeId × Value → H) (F : Stop.Interp) :
    ReturnsInHanded {} Try.checked os 4 .any ((OpenSpec.ofChange Rows.diskPlaysSpec).preRow enc Try.prog Try.f4 Rows.diskPlaysRow.domain false Rows.diskPlaysRow.laid) (((OpenSpec.ofChange Rows.diskPlaysSpec).at F).post enc Try.prog Try.f4 false true false false) := by
  obtain ⟨places, hx⟩ := reads os enc
  refine returnsInHanded_of_row (C := Try.checked) (s := OpenSpec.ofChange Rows.diskPlaysSpec) own_knob started (by kernel_rfl) Try.func4
    (witness_row_at (enc := enc) (C := Try.checked) false (startWorld os) #[.int .i64 0, .slice none 0 0] rfl (by kernel_rfl) (by kernel_rfl) (by kernel_rfl)
      (OpenSpec.preRow_of_cond 8 hx (by kernel_rfl) (fun k hk => by cases hk) (by kernel_rfl) (laid_met os _))) ?_
  intro W base args ds gs before hval0 hW _ _ hsz _ _ _
  have hval : ∀ (j : Nat) t v, Try.f4.params[j]? = some t → args[j]? = some v → Value.okWide Try.prog W .any base t v := hval0
  have hW' := hW
  obtain ⟨p, q, hA0, hV, rfl, hfz, hnd⟩ := hW
  have hA : DataW.TrodAll enc Try.prog W 0 (fun _ => true) true Try.f4.params.toList args.toList ds p := hA0
  rw [Try.params4] at hA hval hsz
  obtain ⟨v0, vs0, d0, ds0, p0, q0, hargs, rfl, rfl, h0, r0⟩ := trodAll_cons hA
  obtain ⟨v1, vs1, d1, ds1, p1, q1, rfl, rfl, rfl, h1, r1⟩ := trodAll_cons r0
  obtain ⟨rfl, rfl, rfl⟩ := trodAll_nil r1
  obtain rfl : args = #[v0, v1] := by cases args; simp_all
  obtain ⟨rfl, rfl⟩ := trodVars_none hV
  obtain ⟨a0, rfl, rfl, rfl, w0⟩ := open_int Try.underlying3 (hval 0 3 v0 rfl rfl) h0
  obtain ⟨A, dl, c, rfl, hls⟩ := open_deeds (hval 1 35 v1 rfl rfl) h1
  clear hval0
  simp only [List.append_nil, List.nil_append] at hW' hA0
  have hC : Calls Try.prog 4 #[.int .i64 a0, .slice A dl.length c] W fun e w' => e = .returned (.bool true) ∧ Kp No W w' := by
    by_cases hr : a0 < 1 ∨ 65536 < a0
    · exact plays_room W a0 A _ c hr
    · by_cases hm : 100 < dl.length
      · exact plays_long W a0 A _ c (by omega) (by omega) hm
      · exact plays_on W a0 A _ c dl (fun k => k < W.heap.size) hls rfl (fun k hk => hk) (by omega) (by omega) (by omega)
  refine hC.mono fun e W' ⟨he, hk⟩ => ?_
  subst he
  refine ⟨_, rfl, _, _, _, [], p1, [], hW', ?_, ?_, ?_, hk.below.frame _, fun h => by cases h⟩
  · exact trodAll_mk1 (shut_bool Try.underlying4 true)
  · refine trodAll_below laid_out hk.below (by kernel_rfl) hA0 (fun x hx => ?_)
    simpa using hW'.lt x (by simpa using hx)
  · rfl

/-- THE STATEMENT. -/
theorem proved : Rows.DiskPlaysSaid :=
  OpenClaim.holds_of_cond 4 Try.f4 rfl rfl rfl rfl rfl rfl rfl ⟨rfl, rfl, rfl, rfl, rfl⟩ rfl rfl rfl rfl rfl (by kernel_rfl) Try.func4 (by kernel_rfl)
    (of_decide_eq_true (by kernel_rfl)) (by unfold Func.isWrapper; first | (rw [if_pos (by decide +kernel)]; kernel_rfl) | (rw [if_neg (by decide +kernel)]; exact ⟨rfl, rfl⟩))
    (fun os started H enc _ F => by rw [OpenClaim.pre_eq_preRow]; exact lifted os started H enc F)
#print axioms proved
end Go.Proofs.Ytnonbimelkagpaa.diskPlays
