/- The disk: what it comes to, in plain lists. No program. -/
import Derived.Test.YtnonbimelkagpaaDiskB
namespace Go.Proofs.Ytnonbimelkagpaa
set_option linter.unusedVariables false
set_option linter.unusedSimpArgs false
open Go.RowKit Go.Lib

/-- A part: its number, its bytes, how many are synced. -/
structure Pt where
  n : Int
  b : List UInt8
  s : Nat
def Ent.pt (x : Ent) : Pt := ⟨x.n, x.b, x.s⟩
def pUsed (L : List Pt) : Nat := (L.map fun x => x.b.length).sum
def pFind (n : Int) (L : List Pt) : Option Pt := L.find? (·.n == n)
def pSet (n : Int) (f : Pt → Pt) (L : List Pt) : List Pt := L.map fun x => if x.n = n then f x else x
def pDel (n : Int) (L : List Pt) : List Pt := L.filter fun x => !(x.n == n)
def pIns (y : Pt) : List Pt → List Pt
  | [] => [y]
  | x :: r => if y.n < x.n then y :: x :: r else x :: pIns y r
def pAppend (n : Int) (b : List UInt8) (L : List Pt) : List Pt := match pFind n L with
  | some _ => pSet n (fun x => ⟨x.n, x.b ++ b, x.s⟩) L
  | none => pIns ⟨n, b, 0⟩ L
def pSync (n : Int) (L : List Pt) : List Pt := pSet n (fun x => ⟨x.n, x.b, x.b.length⟩) L
def pCut (n : Int) (k : Nat) (L : List Pt) : List Pt := pSet n (fun x => ⟨x.n, x.b.take k, k⟩) L
def cutPt (k : Nat) (x : Pt) : Pt := ⟨x.n, x.b.take (x.s + min k (x.b.length - x.s)), x.s + min k (x.b.length - x.s)⟩
def pCrash : Nat → List Pt → List Pt
  | _, [] => []
  | k, x :: r => cutPt k x :: pCrash (k - min k (x.b.length - x.s)) r
def PSorted (L : List Pt) : Prop := L.Pairwise fun x y => x.n < y.n

/-- Block d is a disk of these parts. -/
def Disk (w : World) (d : Nat) (D : Nat → Prop) (room : Int) (down : Bool) (L : List Pt) : Prop := ∃ E, IsDisk w d D room down E ∧ E.map Ent.pt = L
/-- What was and what is new. -/
def Gr (D : Nat → Prop) (w w' : World) : Nat → Prop := fun k => D k ∨ (w.heap.size ≤ k ∧ k < w'.heap.size)
/-- An error's value, by its number. -/
def errV (c : Nat) : Value := if c = 0 then .nilIface else code c

theorem IsDisk.mono {w : World} {d : Nat} {D D' : Nat → Prop} {room : Int} {down : Bool} {E : List Ent} (h : IsDisk w d D room down E) (hd : ∀ k, D k → D' k) (hlt : ∀ k, D' k → k < w.heap.size) : IsDisk w d D' room down E := by
  obtain ⟨mb, h1, h2, h3, _, h4, h5, r⟩ := h
  exact ⟨mb, h1, hd _ h2, hd _ h3, hlt, h4, fun x hx => by
    obtain ⟨a, b, c, e⟩ := h5 x hx
    exact ⟨hd _ a, b, c.mono fun k _ hk => hd k hk, e⟩, r⟩
theorem IsDisk.lt {w : World} {d : Nat} {D : Nat → Prop} {room : Int} {down : Bool} {E : List Ent} (h : IsDisk w d D room down E) : ∀ k, D k → k < w.heap.size := by
  obtain ⟨mb, h1, h2, h3, hlt, _⟩ := h
  exact hlt
theorem IsDisk.own {w : World} {d : Nat} {D : Nat → Prop} {room : Int} {down : Bool} {E : List Ent} (h : IsDisk w d D room down E) : D d := by
  obtain ⟨mb, h1, h2, h3, hlt, _⟩ := h
  exact h2
theorem IsDisk.sorted {w : World} {d : Nat} {D : Nat → Prop} {room : Int} {down : Bool} {E : List Ent} (h : IsDisk w d D room down E) : E.Pairwise fun x y => x.n < y.n := by
  obtain ⟨mb, h1, h2, h3, hlt, h4, _⟩ := h
  exact (List.pairwise_map (R := fun p q : Int × Nat => p.1 < q.1) (f := fun x : Ent => (x.n, x.pb))).1 h4.1
theorem IsDisk.room_le {w : World} {d : Nat} {D : Nat → Prop} {room : Int} {down : Bool} {E : List Ent} (h : IsDisk w d D room down E) : (used E : Int) ≤ room ∧ 1 ≤ room ∧ room ≤ 65536 := by
  obtain ⟨mb, h1, h2, h3, hlt, h4, h5, h6, h7⟩ := h
  exact h7
theorem Gr.lt {D : Nat → Prop} {w w' : World} (hd : ∀ k, D k → k < w.heap.size) (hs : w.heap.size ≤ w'.heap.size) : ∀ k, Gr D w w' k → k < w'.heap.size := by
  rintro k (h | h)
  · have := hd k h; omega
  · exact h.2
theorem Disk.mono {w : World} {d : Nat} {D D' : Nat → Prop} {room : Int} {down : Bool} {L : List Pt} (h : Disk w d D room down L) (hd : ∀ k, D k → D' k) (hlt : ∀ k, D' k → k < w.heap.size) : Disk w d D' room down L := by
  obtain ⟨E, h1, h2⟩ := h
  exact ⟨E, h1.mono hd hlt, h2⟩
theorem Disk.lt {w : World} {d : Nat} {D : Nat → Prop} {room : Int} {down : Bool} {L : List Pt} (h : Disk w d D room down L) : ∀ k, D k → k < w.heap.size := by
  obtain ⟨E, h1, h2⟩ := h
  exact h1.lt
theorem Disk.own {w : World} {d : Nat} {D : Nat → Prop} {room : Int} {down : Bool} {L : List Pt} (h : Disk w d D room down L) : D d := by
  obtain ⟨E, h1, h2⟩ := h
  exact h1.own
theorem Disk.sorted {w : World} {d : Nat} {D : Nat → Prop} {room : Int} {down : Bool} {L : List Pt} (h : Disk w d D room down L) : PSorted L := by
  obtain ⟨E, h1, rfl⟩ := h
  exact List.pairwise_map.2 h1.sorted
theorem pUsed_map (E : List Ent) : pUsed (E.map Ent.pt) = used E := by
  unfold pUsed used
  rw [List.map_map]
  rfl
theorem Disk.room_le {w : World} {d : Nat} {D : Nat → Prop} {room : Int} {down : Bool} {L : List Pt} (h : Disk w d D room down L) : (pUsed L : Int) ≤ room ∧ 1 ≤ room ∧ room ≤ 65536 := by
  obtain ⟨E, h1, rfl⟩ := h
  rw [pUsed_map]
  exact h1.room_le
theorem Disk.kp {w w1 : World} {d : Nat} {D S : Nat → Prop} {room : Int} {down : Bool} {L : List Pt} (h : Disk w d D room down L) (hk : Kp S w w1) (hn : ∀ k, D k → ¬ S k) : Disk w1 d D room down L := by
  obtain ⟨E, h1, h2⟩ := h
  exact ⟨E, h1.kp hk hn, h2⟩
theorem Disk.keep {w w1 : World} {d : Nat} {D : Nat → Prop} {room : Int} {down : Bool} {L : List Pt} (h : Disk w d D room down L) (hk : Kp No w w1) : Disk w1 d D room down L := h.kp hk (fun _ _ => id)
theorem Disk.grow {w w' : World} {d : Nat} {D : Nat → Prop} {room : Int} {down : Bool} {L : List Pt} {w0 : World} (h : Disk w' d D room down L) (hs : w0.heap.size ≤ w.heap.size) (hw : w.heap.size ≤ w'.heap.size) (hd : ∀ k, D k → Gr D w0 w k) : Disk w' d (Gr D w0 w') room down L :=
  h.mono (fun k hk => .inl hk) (fun k hk => by
    rcases hk with hk | hk
    · exact h.lt k hk
    · exact hk.2)

theorem kbs_find {E : List Ent} (n : Int) : at? (kbs E) n = (E.find? (·.n == n)).map (·.pb) := by
  unfold at? kbs
  rw [List.find?_map, Option.map_map]
  rfl
theorem pFind_map (E : List Ent) (n : Int) : pFind n (E.map Ent.pt) = (E.find? (·.n == n)).map Ent.pt := by
  unfold pFind
  rw [List.find?_map]
  rfl
/-- A part that is there, in memory. -/
theorem find_ent {E : List Ent} {n : Int} {x : Ent} (h : E.find? (·.n == n) = some x) : x ∈ E ∧ x.n = n ∧ at? (kbs E) x.n = some x.pb := by
  have h1 : x.n = n := by have := List.find?_some h; simpa using this
  refine ⟨List.mem_of_find?_eq_some h, h1, ?_⟩
  rw [kbs_find, h1, h]
  rfl
theorem ne_n {E : List Ent} (h : E.Pairwise fun x y => x.n < y.n) (hp : E.Pairwise fun x y => x.pb ≠ y.pb) {x z : Ent} (hx : x ∈ E) (hz : z ∈ E) : z.pb = x.pb ↔ z.n = x.n := by
  constructor
  · intro he
    rw [uniq hp hx hz he]
  · intro he
    rcases List.mem_iff_getElem.1 hz with ⟨i, hi, rfl⟩
    rcases List.mem_iff_getElem.1 hx with ⟨j, hj, rfl⟩
    rcases Nat.lt_trichotomy i j with hij | hij | hij
    · have := List.pairwise_iff_getElem.1 h i j hi hj hij; omega
    · subst hij; rfl
    · have := List.pairwise_iff_getElem.1 h j i hj hi hij; omega
/-- One part turned, read as a list. -/
theorem setE_pt {E : List Ent} (h : E.Pairwise fun x y => x.n < y.n) (hp : E.Pairwise fun x y => x.pb ≠ y.pb) {x y : Ent} (hx : x ∈ E) (f : Pt → Pt) (hy : y.pt = f x.pt) : (setE x.pb y E).map Ent.pt = pSet x.n f (E.map Ent.pt) := by
  unfold setE pSet
  rw [List.map_map, List.map_map]
  refine List.map_congr_left fun z hz => ?_
  simp only [Function.comp_def]
  by_cases e : z.pb = x.pb
  · have hzx := uniq hp hx hz e
    rw [if_pos e, if_pos (by rw [hzx]; rfl), hy, hzx]
  · rw [if_neg e, if_neg (show ¬ z.pt.n = x.n from fun hn => e ((ne_n h hp hx hz).2 hn))]
theorem IsDisk.pbs {w : World} {d : Nat} {D : Nat → Prop} {room : Int} {down : Bool} {E : List Ent} (h : IsDisk w d D room down E) : E.Pairwise fun x y => x.pb ≠ y.pb := by
  obtain ⟨mb, h1, h2, h3, hlt, h4, h5, h6, h7⟩ := h
  exact h6.imp fun h => h.1
theorem pDel_none {L : List Pt} {n : Int} (h : pFind n L = none) : pDel n L = L := by
  unfold pFind at h
  unfold pDel
  refine List.filter_eq_self.2 fun x hx => ?_
  have := List.find?_eq_none.1 h x hx
  simpa using this

/-! ### the parts' bounds -/
theorem le_used {E : List Ent} {x : Ent} (hx : x ∈ E) : x.b.length ≤ used E := by
  unfold used
  induction E with
  | nil => cases hx
  | cons y r ih =>
    rw [List.map_cons, List.sum_cons]
    rcases List.mem_cons.1 hx with rfl | hx
    · omega
    · have := ih hx; omega
theorem setE_used {E : List Ent} (hp : E.Pairwise fun x y => x.pb ≠ y.pb) {x y : Ent} (hx : x ∈ E) (hb : y.pb = x.pb) : used (setE x.pb y E) + x.b.length = used E + y.b.length := by
  unfold used setE
  induction E with
  | nil => cases hx
  | cons z r ih =>
    obtain ⟨h1, h2⟩ := List.pairwise_cons.1 hp
    rw [List.map_cons, List.map_cons, List.sum_cons, List.map_cons, List.sum_cons]
    rcases List.mem_cons.1 hx with rfl | hx
    · have : r.map (fun z => if z.pb = x.pb then y else z) = r := by
        conv => rhs; rw [← List.map_id r]
        refine List.map_congr_left fun z hz => ?_
        rw [if_neg (fun e => h1 z hz e.symm)]
        rfl
      rw [this, if_pos rfl]
      omega
    · have := ih h2 hx
      rw [if_neg (h1 x hx)]
      omega
end Go.Proofs.Ytnonbimelkagpaa
