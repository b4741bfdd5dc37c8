/- A region that draws its order, walked in an order of the prover's choice: what yields in every world that meets S is taken first; a call is carried out where nothing else may come up. -/
import Derived.Test.YtnonbimelkagpaaKit
import Derived.Deep.RegionHeld3
namespace Go.Proofs.Ytnonbimelkagpaa
set_option linter.unusedVariables false
set_option linter.unusedSimpArgs false
section
variable {P : Program} {ops : Array Oper} {Q : Exit → Act → World → Prop} {md : Region.Mode} {S : World → Prop}

/-- The rest of the plan: the numbers that are still to come and their operations, in the order that was chosen. -/
def plan (P : Program) (md : Region.Mode) (ops : Array Oper) (Q : Exit → Act → World → Prop) (S : World → Prop) : List (Nat × Oper) → Array Bool → Act → World → Prop
  | [], listed, a, w => Region.ready md ops listed = [] ∧ Q .normal a w
  | (i, o) :: r, listed, a, w => ops[i]? = some o ∧ ((∃ v, Region.noSelect ops = true ∧ Region.free md ops listed i = true ∧ (Region.ready md ops listed).contains i = true ∧ YieldsIf P ops S o v a ∧ S w ∧ plan P md ops Q S r (listed.setIfInBounds i true) (a.put o.dst v) w) ∨
      (Region.ready md ops listed = [i] ∧ wpOp P ops Q i (fun a' w' => S w' ∧ plan P md ops Q S r (listed.setIfInBounds i true) a' w') a w))

theorem plan_held (hQ : ∀ c a d v w, Q (.panic c) (Act.put a d v) w → Q (.panic c) a w) : ∀ (r : List (Nat × Oper)) (listed : Array Bool) (a : Act) (w : World), plan P md ops Q S r listed a w → wpAnyH P md ops Q S r.length listed a w
  | [], _, _, _, h => ⟨h.1, h.2⟩
  | (i, o) :: r, listed, a, w, h => by
    rcases h with ⟨ho, ⟨v, hs, hf, hr, hy, hS, hk⟩ | ⟨hr, hk⟩⟩
    · exact wpAnyH_take ho hs hf hr (fun c a w h => hQ c a o.dst v w h) hy hS (plan_held hQ r _ _ _ hk)
    · refine wpAnyH_all hr (by simp) fun j hj => ?_
      obtain rfl := List.mem_singleton.1 hj
      exact wpOp_mono (fun a' w' h' => ⟨h'.1, plan_held hQ r _ _ _ h'.2⟩) hk

theorem plan_done {listed : Array Bool} {a : Act} {w : World} (hr : Region.ready md ops listed = []) (h : Q .normal a w) : plan P md ops Q S [] listed a w := ⟨hr, h⟩
/-- Number i is taken first. -/
theorem plan_take {i : Nat} {r : List (Nat × Oper)} {listed : Array Bool} {a : Act} {w : World} {o : Oper} {v : Value} (ho : ops[i]? = some o) (hf : (Region.noSelect ops && Region.free md ops listed i && (Region.ready md ops listed).contains i) = true)
    (hw : Region.wanted o (yielded ops a.tmps) = true) (hS : S w) (hy : ∀ w, S w → (execOp a.eval o).run P w = .ok (.value v) w) (hk : plan P md ops Q S r (listed.setIfInBounds i true) (a.put o.dst v) w) : plan P md ops Q S ((i, o) :: r) listed a w := by
  simp only [Bool.and_eq_true] at hf
  exact ⟨ho, .inl ⟨v, hf.1.1, hf.1.2, hf.2, .inl ⟨hw, hy⟩, hS, hk⟩⟩
/-- Number i is not wanted. -/
theorem plan_skip {i : Nat} {r : List (Nat × Oper)} {listed : Array Bool} {a : Act} {w : World} {o : Oper} (ho : ops[i]? = some o) (hf : (Region.noSelect ops && Region.free md ops listed i && (Region.ready md ops listed).contains i) = true)
    (hw : Region.wanted o (yielded ops a.tmps) = false) (hS : S w) (hk : plan P md ops Q S r (listed.setIfInBounds i true) (a.put o.dst undef) w) : plan P md ops Q S ((i, o) :: r) listed a w := by
  simp only [Bool.and_eq_true] at hf
  exact ⟨ho, .inl ⟨undef, hf.1.1, hf.1.2, hf.2, .inr ⟨hw, rfl⟩, hS, hk⟩⟩
/-- Number i alone may come up: it is carried out. -/
theorem plan_do {i : Nat} {r : List (Nat × Oper)} {listed : Array Bool} {a : Act} {w : World} {o : Oper} (ho : ops[i]? = some o) (hr : Region.ready md ops listed = [i]) (hw : Region.wanted o (yielded ops a.tmps) = true)
    (h : ∀ K : Act → World → Prop, Shut (∀ a w, S w → plan P md ops Q S r (listed.setIfInBounds i true) a w → K a w) → Oper.wp P o a w K Q) : plan P md ops Q S ((i, o) :: r) listed a w := by
  refine ⟨ho, .inr ⟨hr, ?_⟩⟩
  unfold wpOp
  simp only [ho, hw, if_true]
  exact .inl (h _ fun a w h1 h2 => ⟨h1, h2⟩)
/-- The same of an operation that yields a value where it stands. -/
theorem plan_do_at {i : Nat} {r : List (Nat × Oper)} {listed : Array Bool} {a : Act} {w : World} {o : Oper} {v : Value} (ho : ops[i]? = some o) (hr : Region.ready md ops listed = [i]) (hw : Region.wanted o (yielded ops a.tmps) = true)
    (hS : S w) (hy : (execOp a.eval o).run P w = .ok (.value v) w) (hk : plan P md ops Q S r (listed.setIfInBounds i true) (a.put o.dst v) w) : plan P md ops Q S ((i, o) :: r) listed a w := by
  refine plan_do ho hr hw fun K hK => ?_
  unfold Oper.wp
  rw [hy]
  exact hK _ _ hS hk
/-- The order of the text. -/
def lexOf : Nat → List Oper → List (Nat × Oper)
  | _, [] => []
  | k, o :: r => (k, o) :: lexOf (k + 1) r
theorem lexOf_length : ∀ (l : List Oper) (k : Nat), (lexOf k l).length = l.length
  | [], _ => rfl
  | _ :: r, k => by simp [lexOf, lexOf_length r]
/-- The beginning, in the text's order; it is shown not to panic. -/
theorem wp_region_plan {id : Nat} {a : Act} {w : World} {l : List Oper} (S : World → Prop) (hm : P.follows .mixedOrders = true)
    (h : plan P .any l.toArray (NoPanic Q) S (lexOf 0 l) (Array.replicate l.toArray.size false) a w.drew) : (Code.region id l.toArray true).wp P Q a w :=
  wp_region_noPanic (wp_region_held (S := S) hm (by have := plan_held (fun _ _ _ _ _ h => h) (lexOf 0 l) _ _ _ h; rw [lexOf_length] at this; simpa using this))
/-- Another order: the numbers, written out. -/
def permOf (l : List Oper) : List Nat → List (Nat × Oper)
  | [] => []
  | i :: r => match l[i]? with
    | some o => (i, o) :: permOf l r
    | none => permOf l r
theorem wp_region_plan_at {id : Nat} {a : Act} {w : World} {l : List Oper} (ns : List Nat) (S : World → Prop) (hm : P.follows .mixedOrders = true) (hl : (permOf l ns).length = l.length)
    (h : plan P .any l.toArray (NoPanic Q) S (permOf l ns) (Array.replicate l.toArray.size false) a w.drew) : (Code.region id l.toArray true).wp P Q a w :=
  wp_region_noPanic (wp_region_held (S := S) hm (by have := plan_held (fun _ _ _ _ _ h => h) (permOf l ns) _ _ _ h; rw [hl] at this; simpa using this))
end
end Go.Proofs.Ytnonbimelkagpaa
