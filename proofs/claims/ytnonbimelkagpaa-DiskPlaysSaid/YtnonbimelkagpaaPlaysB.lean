/- The disk and the reference's disk, side by side. -/
import Derived.Test.YtnonbimelkagpaaPlaysA
namespace Go.Proofs.Ytnonbimelkagpaa
set_option linter.unusedVariables false
set_option linter.unusedSimpArgs false
open Go.RowKit Go.Lib

theorem Disk.synced {w : World} {d : Nat} {D : Nat → Prop} {room : Int} {down : Bool} {L : List Pt} (h : Disk w d D room down L) : ∀ x ∈ L, x.s ≤ x.b.length := by
  obtain ⟨E, ⟨mb, _, _, _, _, _, h5, _⟩, rfl⟩ := h
  intro x hx
  obtain ⟨y, hy, rfl⟩ := List.mem_map.1 hx
  exact (h5 y hy).2.2.2
/-- Both; the blocks that are not of Z are as they were in wb. -/
def PS (Z : Nat → Prop) (wb w : World) (d m : Nat) (room : Int) (dn : Bool) (L : List Pt) (dn2 : Bool) (L2 : List Pt) : Prop :=
  ∃ D M, Disk w d D room dn L ∧ Ref w m M room dn2 L2 ∧ (∀ k, D k → ¬ M k) ∧ (∀ k, D k ∨ M k → Z k ∨ wb.heap.size ≤ k) ∧ Kp Z wb w
section
variable {Z : Nat → Prop} {wb w w1 : World} {d m : Nat} {room : Int} {dn dn2 : Bool} {L L2 : List Pt}
theorem PS.keep (h : PS Z wb w d m room dn L dn2 L2) (hk : Kp No w w1) : PS Z wb w1 d m room dn L dn2 L2 := by
  obtain ⟨D, M, h1, h2, h3, h4, h5⟩ := h
  exact ⟨D, M, h1.keep hk, h2.keep hk, h3, h4, h5.then_ hk⟩
theorem PS.facts (h : PS Z wb w d m room dn L dn2 L2) : PSorted L ∧ (pUsed L : Int) ≤ room ∧ 1 ≤ room ∧ room ≤ 65536 ∧ ∀ x ∈ L, x.s ≤ x.b.length := by
  obtain ⟨D, M, h1, _⟩ := h
  exact ⟨h1.sorted, h1.room_le.1, h1.room_le.2.1, h1.room_le.2.2, h1.synced⟩
theorem PS.doD {f : FuncId} {args : Array Value} {dn' : Bool} {L' : List Pt} {V : Value} (h : PS Z wb w d m room dn L dn2 L2)
    (op : ∀ D, Disk w d D room dn L → Calls Try.prog f args w fun e w' => e = .returned V ∧ Disk w' d (Gr D w w') room dn' L' ∧ Kp D w w') : Calls Try.prog f args w fun e w' => e = .returned V ∧ PS Z wb w' d m room dn' L' dn2 L2 := by
  obtain ⟨D, M, h1, h2, h3, h4, h5⟩ := h
  refine (op D h1).mono ?_
  rintro e w' ⟨rfl, k1, k2⟩
  refine ⟨rfl, Gr D w w', M, k1, h2.kp k2 (fun k hk hd => h3 k hd hk), ?_, ?_, h5.trans k2 (fun k hk hd => ?_)⟩
  · rintro k (hd | hd) hm
    · exact h3 k hd hm
    · have := h2.lt k hm; omega
  · rintro k ((hd | hd) | hm)
    · exact h4 k (.inl hd)
    · exact .inr (Nat.le_trans h5.size hd.1)
    · exact h4 k (.inr hm)
  · rcases h4 k (.inl hd) with h | h
    · exact h
    · omega
theorem PS.doM {f : FuncId} {args : Array Value} {dn2' : Bool} {L2' : List Pt} {V : Value} (h : PS Z wb w d m room dn L dn2 L2)
    (op : ∀ M, Ref w m M room dn2 L2 → Calls Try.prog f args w fun e w' => e = .returned V ∧ Ref w' m (Gr M w w') room dn2' L2' ∧ Kp M w w') : Calls Try.prog f args w fun e w' => e = .returned V ∧ PS Z wb w' d m room dn L dn2' L2' := by
  obtain ⟨D, M, h1, h2, h3, h4, h5⟩ := h
  refine (op M h2).mono ?_
  rintro e w' ⟨rfl, k1, k2⟩
  refine ⟨rfl, D, Gr M w w', h1.kp k2 (fun k hk hd => h3 k hk hd), k1, ?_, ?_, h5.trans k2 (fun k hk hd => ?_)⟩
  · rintro k hd (hm | hm)
    · exact h3 k hd hm
    · have := h1.lt k hd; omega
  · rintro k (hd | (hm | hm))
    · exact h4 k (.inl hd)
    · exact h4 k (.inr hm)
    · exact .inr (Nat.le_trans h5.size hm.1)
  · rcases h4 k (.inr hd) with h | h
    · exact h
    · omega
theorem Ref.gr {M : Nat → Prop} (h : Ref w1 m M room dn L) (hm : ∀ k, M k → k < w.heap.size) (hk : Kp M w w1) : Ref w1 m (Gr M w w1) room dn L := h.mono (fun k hk => .inl hk) (Gr.lt hm hk.size)
/-- Another base. -/
theorem PS.rebase {w0 wr : World} (h : PS No w0 wr d m room dn L dn2 L2) (hk : Kp No wr w) : PS (fun k => w0.heap.size ≤ k ∧ k < wr.heap.size) w w d m room dn L dn2 L2 := by
  obtain ⟨D, M, h1, h2, h3, h4, h5⟩ := h
  exact ⟨D, M, h1.keep hk, h2.keep hk, h3, fun k hk => .inl (by
    have hz := h4 k hk
    rcases hk with hd | hm
    · exact ⟨hz.resolve_left id, h1.lt k hd⟩
    · exact ⟨hz.resolve_left id, h2.lt k hm⟩), Kp.refl _ _⟩
theorem PS.back {w0 wr : World} (h : PS (fun k => w0.heap.size ≤ k ∧ k < wr.heap.size) wb w d m room dn L dn2 L2) (hk : Kp No w0 wb) : PS No w0 w d m room dn L dn2 L2 := by
  obtain ⟨D, M, h1, h2, h3, h4, h5⟩ := h
  refine ⟨D, M, h1, h2, h3, fun k hk' => .inr ?_, hk.trans h5 (fun k hlt hz => by have := hz.1; omega)⟩
  rcases h4 k hk' with h | h
  · exact h.1
  · have := hk.size; omega
/-- A block of neither is turned. -/
theorem PS.far {S : Nat → Prop} (h : PS Z wb w d m room dn L dn2 L2) (hk : Kp S w w1) (hs : ∀ k, S k → ¬ Z k ∧ k < wb.heap.size) : ∃ D M, Disk w1 d D room dn L ∧ Ref w1 m M room dn2 L2 ∧ (∀ k, D k → ¬ M k) ∧ (∀ k, D k ∨ M k → Z k ∨ wb.heap.size ≤ k) := by
  obtain ⟨D, M, h1, h2, h3, h4, h5⟩ := h
  have hno : ∀ k, D k ∨ M k → ¬ S k := fun k hk' hsk => by
    have := hs k hsk
    rcases h4 k hk' with h | h
    · exact this.1 h
    · omega
  exact ⟨D, M, h1.kp hk (fun k hk => hno k (.inl hk)), h2.kp hk (fun k hk => hno k (.inr hk)), h3, h4⟩
end
/-! ### lengths and numbers -/
def NB (L : List Pt) : Prop := ∀ x ∈ L, -9223372036854775808 ≤ x.n ∧ x.n ≤ 9223372036854775807
theorem pSet_ns (n : Int) (f : Pt → Pt) (hf : ∀ x, (f x).n = x.n) (L : List Pt) : (pSet n f L).map (·.n) = L.map (·.n) := by
  unfold pSet
  rw [List.map_map]
  refine List.map_congr_left fun x _ => ?_
  simp only [Function.comp]
  split
  · exact hf x
  · rfl
theorem NB.of {L L' : List Pt} (h : NB L) (e : L'.map (·.n) = L.map (·.n)) : NB L' := fun x hx => by
  have : x.n ∈ L.map (·.n) := e ▸ List.mem_map.2 ⟨x, hx, rfl⟩
  obtain ⟨y, hy, he⟩ := List.mem_map.1 this
  rw [← he]
  exact h y hy
theorem len_of {L L' : List Pt} (e : L'.map (·.n) = L.map (·.n)) : L'.length = L.length := by simpa using congrArg List.length e
theorem pCrash_ns : ∀ (k : Nat) (L : List Pt), (pCrash k L).map (·.n) = L.map (·.n)
  | _, [] => rfl
  | k, x :: r => by rw [pCrash, List.map_cons, List.map_cons, pCrash_ns]; rfl
theorem pDel_nb {n : Int} {L : List Pt} (h : NB L) : NB (pDel n L) ∧ (pDel n L).length ≤ L.length :=
  ⟨fun x hx => h x (List.mem_filter.1 hx).1, List.length_filter_le _ _⟩
theorem pIns_nb (y : Pt) : ∀ (L : List Pt), (∀ x ∈ pIns y L, x = y ∨ x ∈ L) ∧ (pIns y L).length = L.length + 1
  | [] => ⟨fun x hx => .inl (List.mem_singleton.1 hx), rfl⟩
  | z :: r => by
    obtain ⟨h1, h2⟩ := pIns_nb y r
    unfold pIns
    split
    · exact ⟨fun x hx => (List.mem_cons.1 hx), by simp⟩
    · refine ⟨fun x hx => ?_, by simp [h2]⟩
      rcases List.mem_cons.1 hx with rfl | hx
      · exact .inr (List.mem_cons.2 (.inl rfl))
      · rcases h1 x hx with h | h
        · exact .inl h
        · exact .inr (List.mem_cons.2 (.inr h))
/-- What may be said of the parts behind i deeds. -/
def PI (L : List Pt) (i : Nat) : Prop := NB L ∧ L.length ≤ i
theorem PI.same {L L' : List Pt} {i : Nat} (h : PI L i) (e : L'.map (·.n) = L.map (·.n)) : PI L' (i + 1) := ⟨h.1.of e, by have := h.2; have := len_of e; omega⟩
theorem PI.append {L : List Pt} {i : Nat} (h : PI L i) (n : Int) (hn : -9223372036854775808 ≤ n ∧ n ≤ 9223372036854775807) (b : List UInt8) : PI (pAppend n b L) (i + 1) := by
  unfold pAppend
  cases pFind n L with
  | some x => exact h.same (pSet_ns n (fun x => ⟨x.n, x.b ++ b, x.s⟩) (fun _ => rfl) L)
  | none =>
    obtain ⟨h1, h2⟩ := pIns_nb ⟨n, b, 0⟩ L
    refine ⟨fun x hx => ?_, by have := h.2; simp only; omega⟩
    rcases h1 x hx with rfl | h'
    · exact hn
    · exact h.1 x h'
theorem PI.del {L : List Pt} {i : Nat} (h : PI L i) (n : Int) : PI (pDel n L) (i + 1) := ⟨(pDel_nb h.1).1, by have := (pDel_nb (n := n) h.1).2; have := h.2; omega⟩
theorem PI.up {L : List Pt} {i : Nat} (h : PI L i) : PI L (i + 1) := ⟨h.1, by have := h.2; omega⟩
theorem PI.sync {L : List Pt} {i : Nat} (h : PI L i) (n : Int) : PI (pSync n L) (i + 1) := h.same (pSet_ns n (fun x => ⟨x.n, x.b, x.b.length⟩) (fun _ => rfl) L)
theorem PI.cut {L : List Pt} {i : Nat} (h : PI L i) (n : Int) (k : Nat) : PI (pCut n k L) (i + 1) := h.same (pSet_ns n (fun x => ⟨x.n, x.b.take k, k⟩) (fun _ => rfl) L)
theorem PI.crash {L : List Pt} {i : Nat} (h : PI L i) (k : Nat) : PI (pCrash k L) (i + 1) := h.same (pCrash_ns k L)
end Go.Proofs.Ytnonbimelkagpaa
