/- A slice of structs of one-cell fields, opened. -/
import Derived.Test.YtadiedcnkookhaaDoorRowOpen
import Derived.Test.YtadiedcnkookhaaDoorWireReads
import Derived.Deep.Slices
import Derived.Deep.Fields
import Derived.ChangeSame
namespace Go.Proofs.YtadiedcnkookhaaDoor
set_option linter.unusedVariables false
set_option linter.unusedSimpArgs false
open Go.ChangeShapes Go.WideShapes Go.ChangeAt Go.RowKit Go.Deep
section
variable {H : Type} {enc : TypeId × Value → H} {P : Program} {w : World} {base : Nat} {spare : Nat → Bool} {held : Bool}
theorem open_rows {t e : TypeId} {fs : Array Field} {fuel : Nat} {cs : List Value} {x : DataW H × List MemPlace} (ht : P.underlying t = some (.slice e)) (he : P.underlying e = some (.struct fs))
    (hone : oneCellFields P fs = true) (hC : P.cellsOf e = fs.size) (h : DataW.trod enc P w base spare held fuel t cs = some x) :
    (cs = [.slice none 0 0]) ∨
    ∃ (a : Addr) (len cap : Nat), cs = [.slice (some a) len cap] ∧ len ≤ cap ∧ cap ≤ maxLen ∧
      ∀ i, i < len → ∀ (j : Nat) (f : Field), fs[j]? = some f → ∃ (v : Value) (n : Nat) (y : DataW H × List MemPlace), w.cell? (a.add (i * fs.size + j)) = some v ∧ DataW.trod enc P w base spare held n f.type [v] = some y := by
  rcases open_slice ht h with ⟨h0, _⟩ | ⟨a, len, cap, m, n, D, Pl, hcs, hb, hl, hm, hmm, hx, hi⟩
  · exact .inl h0
  · refine .inr ⟨a, len, cap, hcs, hl, hm, fun i hil j f hj => ?_⟩
    obtain ⟨cs', hc, ht'⟩ := hi i (by split at hmm <;> omega)
    rw [hC] at hc
    obtain ⟨ys, n', _, _, hlen, hyl, hf⟩ := DataW.trod_struct he ht'
    obtain ⟨_, hcl, hat⟩ := World.cells?_some hc
    obtain ⟨ho, hk⟩ := hone_of hone j f hj
    have hjl : j < fs.size := (Array.getElem?_eq_some_iff.1 hj).1
    have hcell := hat j hjl
    have hv : cs'[j]? = some (cs'[j]'(by omega)) := List.getElem?_eq_getElem (by omega)
    have h1 := hf j f hj
    rw [ho, hk] at h1
    have hone' : (cs'.drop j).take 1 = [cs'[j]'(by omega)] := by
      rw [List.drop_eq_getElem_cons (by omega)]
      rfl
    rw [hone'] at h1
    have hys : ys[j]? = some (ys[j]'(by omega)) := List.getElem?_eq_getElem (by omega)
    refine ⟨_, n', _, ?_, h1.trans hys⟩
    rw [← Go.Deep.add_add, hcell, hv]
end
theorem askCells_len : ∀ qs : List (Int × Int), (askCells qs).length = qs.length * 2
  | [] => rfl
  | _ :: r => by
    have := askCells_len r
    simp only [askCells, List.flatMap_cons, List.length_append, List.length_cons, List.length_nil] at this ⊢
    omega
set_option maxRecDepth 100000 in
theorem open_asks {H : Type} {enc : TypeId × Value → H} {W : World} {base : Nat} {v : Value} {d : DataW H} {p : List MemPlace} (hv : Value.okWide Tryd.prog W .any base 32 v)
    (h : DataW.Trod enc Tryd.prog W 0 (fun _ => true) true 32 v d p) : ∃ (B : Option Addr) (qs : List (Int × Int)) (c : Nat), v = .slice B qs.length c ∧ qs.length ≤ c ∧ Rd W (fun k => k < W.heap.size) B (askCells qs) ∧
      ∀ q ∈ qs, (-9223372036854775808 ≤ q.1 ∧ q.1 ≤ 9223372036854775807) ∧ (-9223372036854775808 ≤ q.2 ∧ q.2 ≤ 9223372036854775807) := by
  obtain ⟨a0, len, cap, rfl⟩ := okWide_slice Tryd.underlying32 hv
  obtain ⟨fuel, hf⟩ := h
  rcases open_rows Tryd.underlying32 Tryd.underlying40 (by kernel_rfl) (by kernel_rfl) hf with hcs | ⟨a, len', cap', hcs, hl, hm, hi⟩
  · simp [Value.cells] at hcs
    obtain ⟨rfl, rfl, rfl⟩ := hcs
    exact ⟨none, [], 0, rfl, Nat.le_refl _, Rd.nil _ _ _, fun _ h => by cases h⟩
  · simp [Value.cells] at hcs
    obtain ⟨rfl, rfl, rfl⟩ := hcs
    have each : ∀ i, i < len → ∃ q : Int × Int, W.cell? (a.add (i * 2)) = some (.int .i64 q.1) ∧ W.cell? (a.add (i * 2 + 1)) = some (.int .i64 q.2) ∧ (-9223372036854775808 ≤ q.1 ∧ q.1 ≤ 9223372036854775807) ∧ (-9223372036854775808 ≤ q.2 ∧ q.2 ≤ 9223372036854775807) := by
      intro i hil
      obtain ⟨v0, n0, y0, hc0, ht0⟩ := hi i hil 0 _ rfl
      obtain ⟨v1, n1, y1, hc1, ht1⟩ := hi i hil 1 _ rfl
      obtain ⟨z0, e0, _, w0⟩ := DataW.trod_int Tryd.underlying3 ht0
      obtain ⟨z1, e1, _, w1⟩ := DataW.trod_int Tryd.underlying3 ht1
      injection e0 with e0
      injection e1 with e1
      subst e0
      subst e1
      have b0 := bounds_i64 w0
      have b1 := bounds_i64 w1
      exact ⟨(z0, z1), hc0, hc1, ⟨by show _ ≤ z0; omega, by show z0 ≤ _; omega⟩, ⟨by show _ ≤ z1; omega, by show z1 ≤ _; omega⟩⟩
    obtain ⟨f, hfs⟩ : ∃ f : Nat → Int × Int, ∀ i, i < len → W.cell? (a.add (i * 2)) = some (.int .i64 (f i).1) ∧ W.cell? (a.add (i * 2 + 1)) = some (.int .i64 (f i).2) ∧ (-9223372036854775808 ≤ (f i).1 ∧ (f i).1 ≤ 9223372036854775807) ∧ (-9223372036854775808 ≤ (f i).2 ∧ (f i).2 ≤ 9223372036854775807) :=
      ⟨fun i => if h : i < len then Classical.choose (each i h) else (0, 0), fun i h => by simp only [h, dite_true]; exact Classical.choose_spec (each i h)⟩
    refine ⟨some a, (List.range len).map f, cap, by simp, by simpa using hl, fun hp => ⟨a, rfl, ?_, fun j u hu => ?_⟩, fun q hq => ?_⟩
    · rcases Nat.eq_zero_or_pos len with h0 | h0
      · subst h0; simp [askCells] at hp
      · have := World.block_lt_of_cell? W _ (hfs 0 h0).1
        rw [add_block] at this
        exact this
    · have hlen : (askCells ((List.range len).map f)).length = len * 2 := by
        rw [askCells_len, List.length_map, List.length_range]
      have hj : j < len * 2 := by have := (List.getElem?_eq_some_iff.1 hu).1; omega
      have hq : ((List.range len).map f)[j / 2]? = some (f (j / 2)) := by simp [List.getElem?_range (show j / 2 < len by omega)]
      obtain ⟨c0, c1⟩ := askCells_at _ _ _ hq
      have hh := hfs (j / 2) (by omega)
      rcases Nat.mod_two_eq_zero_or_one j with h2 | h2
      · have e : j / 2 * 2 = j := by omega
        rw [e] at c0
        rw [e] at hh
        rw [hu] at c0
        rw [c0]; exact hh.1
      · have e : j / 2 * 2 + 1 = j := by omega
        rw [e] at c1
        rw [e] at hh
        rw [hu] at c1
        rw [c1]; exact hh.2.1
    · obtain ⟨i, hi, rfl⟩ := List.mem_map.1 hq
      exact (hfs i (List.mem_range.1 hi)).2.2
end Go.Proofs.YtadiedcnkookhaaDoor
