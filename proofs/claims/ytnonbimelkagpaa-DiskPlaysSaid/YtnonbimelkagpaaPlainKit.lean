/- The rows of a seat without cards: arguments opened, and read again behind the call. -/
import Derived.Test.YtnonbimelkagpaaRows
import Derived.Test.YtnonbimelkagpaaKit
import Derived.WalkKit
import Derived.ProofKit
import Derived.OpenShut
import Derived.ShutString
import Derived.Carry
import Derived.Deep.DeepHandedRow
import Derived.LaidLaws
import Derived.LaidHandle
import Derived.Stop.Joined
import Derived.ChangeSlices
import Derived.SizedLaws
import Derived.Deep.Slices
import Derived.Deep.Fields
import Derived.ChangeSame
namespace Go.Proofs.Ytnonbimelkagpaa
set_option linter.unusedVariables false
set_option linter.unusedSimpArgs false
open Go.ChangeShapes Go.WideShapes Go.ChangeAt Go.RowKit
theorem own_knob : ownKnob Try.prog.godebug = none := by kernel_rfl
section
variable {H : Type} {enc : TypeId × Value → H} {P : Program}
/-- All arguments read behind the call as they did. -/
theorem trodAll_below (hl : laidOutB P = true) {W W' : World} (hb : Below W.heap.size W W') : ∀ {ts : List TypeId} {vs : List Value} {ds : List (DataW H)} {ps : List MemPlace}, (ts.all fun t => P.readableRec t && decide (t < P.types.size)) = true →
    DataW.TrodAll enc P W 0 (fun _ => true) true ts vs ds ps → (∀ x ∈ ps, x.block < W.heap.size) → DataW.TrodAll enc P W' 0 (fun b => decide (b < W.heap.size)) true ts vs ds ps
  | [], vs, ds, ps, _, h, _ => by
    obtain ⟨rfl, rfl, rfl⟩ := trodAll_nil h
    exact trodAll_mk0
  | t :: ts, vs, ds, ps, ht, h, hlt => by
    obtain ⟨v, vs', d, ds', p, p', rfl, rfl, rfl, h0, hr⟩ := trodAll_cons h
    simp only [List.all_cons, Bool.and_eq_true, decide_eq_true_eq] at ht
    exact trodAll_cons_mk (Below.trod hl ht.1.1 ht.1.2 h0 hb (fun x hx => hlt x (List.mem_append.2 (.inl hx)))) (trodAll_below hl hb (by simpa using ht.2) hr (fun x hx => hlt x (List.mem_append.2 (.inr hx))))

/-- A slice of bytes. -/
theorem open_u8s {W : World} {base : Nat} {t e : TypeId} (ht : P.underlying t = some (.slice e)) (he : P.underlying e = some (.int .u8)) (hc : P.cellsOf e = 1) {v : Value} {d : DataW H} {p : List MemPlace} (hv : Value.okWide P W .any base t v)
    (h : DataW.Trod enc P W 0 (fun _ => true) true t v d p) : ∃ (A : Option Addr) (l : List UInt8) (c : Nat), v = .slice A l.length c ∧ l.length ≤ c ∧ c ≤ maxLen ∧ Rd W (fun k => k < W.heap.size) A (u8s l) := by
  obtain ⟨a0, len, cap, rfl⟩ := okWide_slice ht hv
  obtain ⟨fuel, hf⟩ := h
  rcases open_ints ht he hc hf with ⟨hcs, _⟩ | ⟨a, len', cap', zs, hcs, _, hl, hm, hz, hx, hcell, hwz⟩
  · simp [Value.cells] at hcs
    obtain ⟨rfl, rfl, rfl⟩ := hcs
    exact ⟨none, [], 0, rfl, Nat.le_refl _, by decide, Rd.nil _ _ _⟩
  · simp [Value.cells] at hcs
    obtain ⟨rfl, rfl, rfl⟩ := hcs
    simp only [if_true] at hz
    have hlen : ((zs.take len).map fun z => UInt8.ofNat z.toNat).length = len := by rw [List.length_map, List.length_take]; omega
    refine ⟨some a, (zs.take len).map fun z => UInt8.ofNat z.toNat, cap, by rw [hlen], by rw [hlen]; exact hl, hm, fun hp => ⟨a, rfl, ?_, fun j u hu => ?_⟩⟩
    · have h0 : 0 < zs.length := by rw [u8s_length, hlen] at hp; omega
      have := World.block_lt_of_cell? W _ (hcell 0 h0)
      rw [add_block] at this
      exact this
    · have hj : j < len := by have := (List.getElem?_eq_some_iff.1 hu).1; rw [u8s_length, hlen] at this; exact this
      rw [hcell j (by omega)]
      have hz2 : zs[j]? = some (zs[j]'(by omega)) := List.getElem?_eq_getElem _
      have hw := hwz _ (List.mem_of_getElem? hz2)
      have hb := bounds_u8 hw
      rw [u8s_get (x := UInt8.ofNat (zs[j]'(by omega)).toNat) (by simp [List.getElem?_take, hj, hz2])] at hu
      rw [← hu, List.getD_eq_getElem?_getD, hz2, Option.getD_some, UInt8.toNat_ofNat_of_lt' (by show _ < 256; omega), Int.toNat_of_nonneg (by omega)]
end
/-- A slice of bytes, its size too. -/
theorem open_u8s_sized {H : Type} {enc : TypeId × Value → H} {P : Program} {W : World} {base : Nat} {t e : TypeId} (ht : P.underlying t = some (.slice e)) (he : P.underlying e = some (.int .u8)) (hc : P.cellsOf e = 1) (hb : P.bytesOf e = 1) {v : Value} {d : DataW H} {p : List MemPlace} (hv : Value.okWide P W .any base t v)
    {ts : List TypeId} {ds : List (DataW H)} (hs : (DataW.weightsEach P ts ds).all (· ≤ reachBytes) = true) {j : Nat} (htj : ts[j]? = some t) (hdj : ds[j]? = some d)
    (h : DataW.Trod enc P W 0 (fun _ => true) true t v d p) : ∃ (A : Option Addr) (l : List UInt8) (c : Nat), v = .slice A l.length c ∧ l.length ≤ c ∧ l.length ≤ 140737488355328 ∧ Rd W (fun k => k < W.heap.size) A (u8s l) := by
  obtain ⟨A, l, c, rfl, h1, h2, h3⟩ := open_u8s ht he hc hv h
  refine ⟨A, l, c, rfl, h1, ?_, h3⟩
  obtain ⟨fuel, hf⟩ := h
  rcases open_ints ht he hc hf with ⟨hcs, _⟩ | ⟨a, len', cap', zs, hcs, _, hl, hm, hz, hx, hcell, hwz⟩
  · simp [Value.cells] at hcs
    have : l.length = 0 := by simp [hcs]
    omega
  · simp [Value.cells] at hcs
    obtain ⟨_, h5, h6⟩ := hcs
    simp only [if_true] at hz
    injection hx with hx1 hx2
    rw [hx1] at hdj
    have := sized_slice hs htj hdj ht
    simp [lits, hb] at this
    have := reachBytes_lt
    omega
theorem laid_out : laidOutB Try.prog = true := by kernel_rfl
end Go.Proofs.Ytnonbimelkagpaa
