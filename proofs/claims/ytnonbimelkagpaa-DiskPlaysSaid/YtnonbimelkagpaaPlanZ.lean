/- A region that draws its order, walked in an order of the prover's choice: S holds till number z comes up; what looks at memory comes up before it. -/
import Derived.Test.YtnonbimelkagpaaPlanL
namespace Go.Proofs.Ytnonbimelkagpaa
set_option linter.unusedVariables false
set_option linter.unusedSimpArgs false
section
variable {P : Program} {ops : Array Oper} {Q : Exit → Act → World → Prop} {md : Region.Mode} {S : World → Prop} {z : Nat}

def anyZ (P : Program) (md : Region.Mode) (ops : Array Oper) (Q : Exit → Act → World → Prop) (S : World → Prop) (z : Nat) : Nat → Array Bool → Act → World → Prop
  | 0, listed, a, w => Region.ready md ops listed = [] ∧ Q .normal a w
  | n + 1, listed, a, w => (Region.ready md ops listed = [] → Q .normal a w) ∧ ∀ i ∈ Region.ready md ops listed, wpOp P ops Q i (fun a' w' => ((listed.setIfInBounds i true).getD z true = false → S w') ∧ anyZ P md ops Q S z n (listed.setIfInBounds i true) a' w') a w
theorem any_of_Z : ∀ (n : Nat) (listed : Array Bool) (a : Act) (w : World), anyZ P md ops Q S z n listed a w → wpAny P md ops Q n listed a w
  | 0, _, _, _, h => h
  | n + 1, _, _, _, h => ⟨h.1, fun i hi => wpOp_mono (fun a' w' h' => any_of_Z n _ a' w' h'.2) (h.2 i hi)⟩

theorem setZ {listed : Array Bool} {j : Nat} (h : (listed.setIfInBounds j true).getD z true = false) : listed.getD z true = false := by
  by_cases e : j = z
  · subst e
    rcases Nat.lt_or_ge j listed.size with h' | h'
    · simp [h'] at h
    · simp [Array.getElem?_eq_none h'] at h
  · rwa [getD_set_ne true e] at h

/-- What looks at memory, and number z waits for it. -/
theorem anyZ_firstS {i : Nat} {oi : Oper} {v : Value} (hi : ops[i]? = some oi) (hz : waits md ops [z] i = true) (hsel : ∀ (j : Nat) (o : Oper) cs b, ops[j]? = some o → o.op ≠ .select cs b)
    (hQ : ∀ c a w, Q (.panic c) (a.put oi.dst v) w → Q (.panic c) a w) :
    ∀ (n : Nat) (listed : Array Bool) (a : Act) (w : World), (∀ j oj, ops[j]? = some oj → j ≠ i → listed.getD j true = false → (∀ e ∈ oj.after, Region.binds md e = true → e.on ≠ i) → oi.apart ops oj = true) →
      i ∈ Region.ready md ops listed → listed.getD z true = false → i ≠ z → YieldsIf P ops S oi v a → S w → anyZ P md ops Q S z n (listed.setIfInBounds i true) (a.put oi.dst v) w → anyZ P md ops Q S z (n + 1) listed a w := by
  intro n
  induction n with
  | zero =>
    intro listed a w _ hr hu hiz hy hS H
    refine ⟨fun h => (by rw [h] at hr; cases hr), fun j hj => ?_⟩
    by_cases hji : j = i
    · subst hji; exact hy.wpOp hi hS ⟨fun _ => hS, H⟩
    · have := ready_mono hj hji
      rw [H.1] at this
      cases this
  | succ n ih =>
    intro listed a w hfree hr hu hiz hy hS H
    refine ⟨fun h => (by rw [h] at hr; cases hr), fun j hj => ?_⟩
    by_cases hji : j = i
    · subst hji; exact hy.wpOp hi hS ⟨fun _ => hS, H⟩
    · have hjz : j ≠ z := fun e => waits_not hz (List.mem_singleton.2 rfl) hr (e ▸ hj)
      have h1 := H.2 j (ready_mono hj hji)
      obtain ⟨hjun, oj, hoj, hall⟩ := mem_ready.1 hj
      have hnot : ∀ e ∈ oj.after, Region.binds md e = true → e.on ≠ i := fun e he hb heq => by
        have h1 := hall e he hb
        have h0 := (mem_ready.1 hr).1
        rw [heq] at h1
        rcases Nat.lt_or_ge i listed.size with h' | h'
        · simp [h'] at h0 h1; rw [h0] at h1; cases h1
        · simp [Array.getElem?_eq_none h'] at h1
      have h2 := wpOp_putIf hoj (hfree j oj hoj hji hjun hnot) (fun cs b => hsel i oi cs b hi) (fun cs b => hsel j oj cs b hoj) hQ hy h1
      have hfree' : ∀ k ok, ops[k]? = some ok → k ≠ i → (listed.setIfInBounds j true).getD k true = false → (∀ e ∈ ok.after, Region.binds md e = true → e.on ≠ i) → oi.apart ops ok = true := fun k ok hk hki hun hno => by
        refine hfree k ok hk hki ?_ hno
        by_cases hjk : j = k
        · subst hjk; exact hjun
        · rw [getD_set_ne true hjk] at hun; exact hun
      have huj : (listed.setIfInBounds j true).getD z true = false := by rw [getD_set_ne true hjz]; exact hu
      have huij : ((listed.setIfInBounds i true).setIfInBounds j true).getD z true = false := by rw [getD_set_ne true hjz, getD_set_ne true hiz]; exact hu
      refine wpOp_mono (fun a' w' h3 => ⟨fun _ => h3.2.1 huij, ih (listed.setIfInBounds j true) a' w' hfree' (ready_mono hr (Ne.symm hji)) huj hiz h3.1 (h3.2.1 huij) ?_⟩) h2
      rw [Array.setIfInBounds_comm _ _ hji]
      exact h3.2.2
/-- What looks at no memory. -/
theorem anyZ_first0 {i : Nat} {oi : Oper} {v : Value} (hi : ops[i]? = some oi) (hsel : ∀ (j : Nat) (o : Oper) cs b, ops[j]? = some o → o.op ≠ .select cs b)
    (hQ : ∀ c a w, Q (.panic c) (a.put oi.dst v) w → Q (.panic c) a w) (hiz : i ≠ z) :
    ∀ (n : Nat) (listed : Array Bool) (a : Act) (w : World), (∀ j oj, ops[j]? = some oj → j ≠ i → listed.getD j true = false → (∀ e ∈ oj.after, Region.binds md e = true → e.on ≠ i) → oi.apart ops oj = true) →
      i ∈ Region.ready md ops listed → YieldsIf P ops (fun _ => True) oi v a → (listed.getD z true = false → S w) → anyZ P md ops Q S z n (listed.setIfInBounds i true) (a.put oi.dst v) w → anyZ P md ops Q S z (n + 1) listed a w := by
  intro n
  induction n with
  | zero =>
    intro listed a w _ hr hy hS H
    refine ⟨fun h => (by rw [h] at hr; cases hr), fun j hj => ?_⟩
    by_cases hji : j = i
    · subst hji; exact hy.wpOp hi trivial ⟨fun h => hS (setZ h), H⟩
    · have := ready_mono hj hji
      rw [H.1] at this
      cases this
  | succ n ih =>
    intro listed a w hfree hr hy hS H
    refine ⟨fun h => (by rw [h] at hr; cases hr), fun j hj => ?_⟩
    by_cases hji : j = i
    · subst hji; exact hy.wpOp hi trivial ⟨fun h => hS (setZ h), H⟩
    · have h1 := H.2 j (ready_mono hj hji)
      obtain ⟨hjun, oj, hoj, hall⟩ := mem_ready.1 hj
      have hnot : ∀ e ∈ oj.after, Region.binds md e = true → e.on ≠ i := fun e he hb heq => by
        have h1 := hall e he hb
        have h0 := (mem_ready.1 hr).1
        rw [heq] at h1
        rcases Nat.lt_or_ge i listed.size with h' | h'
        · simp [h'] at h0 h1; rw [h0] at h1; cases h1
        · simp [Array.getElem?_eq_none h'] at h1
      have h2 := wpOp_putIf hoj (hfree j oj hoj hji hjun hnot) (fun cs b => hsel i oi cs b hi) (fun cs b => hsel j oj cs b hoj) hQ hy h1
      have hfree' : ∀ k ok, ops[k]? = some ok → k ≠ i → (listed.setIfInBounds j true).getD k true = false → (∀ e ∈ ok.after, Region.binds md e = true → e.on ≠ i) → oi.apart ops ok = true := fun k ok hk hki hun hno => by
        refine hfree k ok hk hki ?_ hno
        by_cases hjk : j = k
        · subst hjk; exact hjun
        · rw [getD_set_ne true hjk] at hun; exact hun
      have hcv : ∀ {u}, (listed.setIfInBounds j true).getD z true = u → ((listed.setIfInBounds i true).setIfInBounds j true).getD z true = u := fun h => by
        rw [Array.setIfInBounds_comm _ _ (Ne.symm hji), getD_set_ne true hiz]; exact h
      refine wpOp_mono (fun a' w' h3 => ⟨fun h => h3.2.1 (hcv h), ih (listed.setIfInBounds j true) a' w' hfree' (ready_mono hr (Ne.symm hji)) h3.1 (fun h => h3.2.1 (hcv h)) ?_⟩) h2
      rw [Array.setIfInBounds_comm _ _ hji]
      exact h3.2.2

def planZ (P : Program) (md : Region.Mode) (ops : Array Oper) (Q : Exit → Act → World → Prop) (S : World → Prop) (z : Nat) : List (Nat × Oper) → Array Bool → Act → World → Prop
  | [], listed, a, w => Region.ready md ops listed = [] ∧ Q .normal a w
  | (i, o) :: r, listed, a, w => ops[i]? = some o ∧ ((∃ v, Region.noSelect ops = true ∧ waits md ops [z] i = true ∧ listed.getD z true = false ∧ i ≠ z ∧ Region.free md ops listed i = true ∧ (Region.ready md ops listed).contains i = true ∧ YieldsIf P ops S o v a ∧ S w ∧ planZ P md ops Q S z r (listed.setIfInBounds i true) (a.put o.dst v) w) ∨
      (∃ v, Region.noSelect ops = true ∧ i ≠ z ∧ Region.free md ops listed i = true ∧ (Region.ready md ops listed).contains i = true ∧ YieldsIf P ops (fun _ => True) o v a ∧ (listed.getD z true = false → S w) ∧ planZ P md ops Q S z r (listed.setIfInBounds i true) (a.put o.dst v) w) ∨
      (Region.ready md ops listed = [i] ∧ wpOp P ops Q i (fun a' w' => ((listed.setIfInBounds i true).getD z true = false → S w') ∧ planZ P md ops Q S z r (listed.setIfInBounds i true) a' w') a w))
theorem planZ_held (hQ : ∀ c a d v w, Q (.panic c) (Act.put a d v) w → Q (.panic c) a w) : ∀ (r : List (Nat × Oper)) (listed : Array Bool) (a : Act) (w : World), planZ P md ops Q S z r listed a w → anyZ P md ops Q S z r.length listed a w
  | [], _, _, _, h => ⟨h.1, h.2⟩
  | (i, o) :: r, listed, a, w, h => by
    rcases h with ⟨ho, ⟨v, hs, hz, hu, hiz, hf, hr, hy, hS, hk⟩ | ⟨v, hs, hiz, hf, hr, hy, hS, hk⟩ | ⟨hr, hk⟩⟩
    · exact anyZ_firstS ho hz (Region.noSelect_spec hs) (fun c a w h => hQ c a o.dst v w h) _ _ _ _ (Region.free_spec ho hf) (by simpa using hr) hu hiz hy hS (planZ_held hQ r _ _ _ hk)
    · exact anyZ_first0 ho (Region.noSelect_spec hs) (fun c a w h => hQ c a o.dst v w h) hiz _ _ _ _ (Region.free_spec ho hf) (by simpa using hr) hy hS (planZ_held hQ r _ _ _ hk)
    · refine ⟨fun h0 => absurd (hr ▸ h0) (by simp), fun j hj => ?_⟩
      rw [hr] at hj
      obtain rfl := List.mem_singleton.1 hj
      exact wpOp_mono (fun a' w' h' => ⟨h'.1, planZ_held hQ r _ _ _ h'.2⟩) hk
theorem planZ_done {listed : Array Bool} {a : Act} {w : World} (hr : Region.ready md ops listed = []) (h : Q .normal a w) : planZ P md ops Q S z [] listed a w := ⟨hr, h⟩
theorem planZ_takeS {i : Nat} {r : List (Nat × Oper)} {listed : Array Bool} {a : Act} {w : World} {o : Oper} {v : Value} (ho : ops[i]? = some o) (hf : (Region.noSelect ops && waits md ops [z] i && !(listed.getD z true) && !(i == z) && Region.free md ops listed i && (Region.ready md ops listed).contains i) = true)
    (hw : Region.wanted o (yielded ops a.tmps) = true) (hS : S w) (hy : ∀ w, S w → (execOp a.eval o).run P w = .ok (.value v) w) (hk : planZ P md ops Q S z r (listed.setIfInBounds i true) (a.put o.dst v) w) : planZ P md ops Q S z ((i, o) :: r) listed a w := by
  simp only [Bool.and_eq_true, Bool.not_eq_true', beq_eq_false_iff_ne] at hf
  exact ⟨ho, .inl ⟨v, hf.1.1.1.1.1, hf.1.1.1.1.2, hf.1.1.1.2, hf.1.1.2, hf.1.2, hf.2, .inl ⟨hw, hy⟩, hS, hk⟩⟩
theorem planZ_take {i : Nat} {r : List (Nat × Oper)} {listed : Array Bool} {a : Act} {w : World} {o : Oper} {v : Value} (ho : ops[i]? = some o) (hf : (Region.noSelect ops && !(i == z) && Region.free md ops listed i && (Region.ready md ops listed).contains i) = true)
    (hw : Region.wanted o (yielded ops a.tmps) = true) (hS : S w) (hy : ∀ w, (execOp a.eval o).run P w = .ok (.value v) w) (hk : planZ P md ops Q S z r (listed.setIfInBounds i true) (a.put o.dst v) w) : planZ P md ops Q S z ((i, o) :: r) listed a w := by
  simp only [Bool.and_eq_true, Bool.not_eq_true', beq_eq_false_iff_ne] at hf
  exact ⟨ho, .inr (.inl ⟨v, hf.1.1.1, hf.1.1.2, hf.1.2, hf.2, .inl ⟨hw, fun w _ => hy w⟩, fun _ => hS, hk⟩)⟩
theorem planZ_do {i : Nat} {r : List (Nat × Oper)} {listed : Array Bool} {a : Act} {w : World} {o : Oper} (ho : ops[i]? = some o) (hr : Region.ready md ops listed = [i]) (hw : Region.wanted o (yielded ops a.tmps) = true)
    (h : ∀ K : Act → World → Prop, Shut (∀ a w, S w → planZ P md ops Q S z r (listed.setIfInBounds i true) a w → K a w) → Oper.wp P o a w K Q) : planZ P md ops Q S z ((i, o) :: r) listed a w := by
  refine ⟨ho, .inr (.inr ⟨hr, ?_⟩)⟩
  unfold wpOp
  simp only [ho, hw, if_true]
  exact .inl (h _ fun a w h1 h2 => ⟨fun _ => h1, h2⟩)
/-- From number z on S is not asked. -/
theorem planZ_last {i : Nat} {r : List (Nat × Oper)} {listed : Array Bool} {a : Act} {w : World} {o : Oper} (ho : ops[i]? = some o) (hr : Region.ready md ops listed = [i]) (hz : (listed.setIfInBounds i true).getD z true = true) (hw : Region.wanted o (yielded ops a.tmps) = true)
    (h : ∀ K : Act → World → Prop, Shut (∀ a w, planZ P md ops Q S z r (listed.setIfInBounds i true) a w → K a w) → Oper.wp P o a w K Q) : planZ P md ops Q S z ((i, o) :: r) listed a w := by
  refine ⟨ho, .inr (.inr ⟨hr, ?_⟩)⟩
  unfold wpOp
  simp only [ho, hw, if_true]
  exact .inl (h _ fun a w h2 => ⟨(fun h => by rw [hz] at h; cases h), h2⟩)
theorem wp_region_planZ_at {id : Nat} {a : Act} {w : World} {l : List Oper} (ns : List Nat) (z : Nat) (S : World → Prop) (hm : P.follows .mixedOrders = true) (hl : (permOf l ns).length = l.length)
    (h : planZ P .any l.toArray (NoPanic Q) S z (permOf l ns) (Array.replicate l.toArray.size false) a w.drew) : (Code.region id l.toArray true).wp P Q a w :=
  wp_region_noPanic (wp_region_any hm (any_of_Z _ _ _ _ (by have := planZ_held (fun _ _ _ _ _ h => h) (permOf l ns) _ _ _ h; rw [hl] at this; simpa using this)))
end
end Go.Proofs.Ytnonbimelkagpaa
