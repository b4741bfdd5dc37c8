/- Maps with int keys whose elements are pointers or maps: as a sorted list of keys and blocks. -/
import Derived.Test.YtnonbimelkagpaaKit
import Derived.Maps.Own
import Derived.Maps.OwnSet
import Derived.Maps.Range
import Derived.Maps.RangeWalk
import Derived.Maps.Views
namespace Go.Proofs.Ytnonbimelkagpaa
set_option linter.unusedVariables false
set_option linter.unusedSimpArgs false
open Go.RowKit Go.Lib Go.ChangeMaps

/-- What a pointer is good for: 0: nil; else its block, and one. -/
def ptrTok : Value → Option Nat
  | .pointer none => some 0
  | .pointer (some ⟨b, 0, none⟩) => some (b + 1)
  | _ => none
def mapTok : Value → Option Nat
  | .map none => some 0
  | .map (some b) => some (b + 1)
  | _ => none
theorem ptrTok_inv {v : Value} {b : Nat} (h : ptrTok v = some (b + 1)) : v = .pointer (some ⟨b, 0, none⟩) := by
  unfold ptrTok at h
  split at h <;> simp_all
theorem mapTok_inv {v : Value} {b : Nat} (h : mapTok v = some (b + 1)) : v = .map (some b) := by
  unfold mapTok at h
  split at h <;> simp_all
def tokR (g : Value → Option Nat) (v : Value) : Option (DataW Nat × List MemPlace) := (g v).map fun b => (.held b, [])
theorem tokR_inv {g : Value → Option Nat} {v : Value} {b : Nat} {ps : List MemPlace} (h : tokR g v = some (.held b, ps)) : g v = some b := by
  unfold tokR at h
  cases hg : g v <;> simp_all

/-- The datum of a list of keys and blocks. -/
def ents (l : List (Int × Nat)) : List (Lit × DataW Nat) := l.map fun p => (.int .i64 p.1, .held (p.2 + 1))
def at? (l : List (Int × Nat)) (n : Int) : Option Nat := (l.find? (·.1 == n)).map (·.2)
/-- A key is laid. -/
def ins (n : Int) (b : Nat) : List (Int × Nat) → List (Int × Nat)
  | [] => [(n, b)]
  | p :: r => if n < p.1 then (n, b) :: p :: r else if p.1 = n then (n, b) :: r else p :: ins n b r
def del (n : Int) (l : List (Int × Nat)) : List (Int × Nat) := l.filter fun p => !(p.1 == n)

theorem ents_has : ∀ (l : List (Int × Nat)) (n : Int), Maps.has (.map (ents l)) (.int .i64 n) = (at? l n).isSome
  | [], n => rfl
  | p :: r, n => by
    have ih := ents_has r n
    simp only [Maps.has, ents, List.map_cons, List.any_cons, at?, List.find?_cons] at ih ⊢
    by_cases h : p.1 = n
    · simp [Lit.sameKey, h]
    · have h2 : (p.1 == n) = false := by simpa using h
      rw [ih, h2]
      simp [Lit.sameKey, h]
theorem ents_atKey : ∀ (l : List (Int × Nat)) (n : Int) (zd : DataW Nat), (DataW.map (ents l)).atKey (.int .i64 n) zd = match at? l n with | some b => .held (b + 1) | none => zd
  | [], n, zd => rfl
  | p :: r, n, zd => by
    have ih := ents_atKey r n zd
    simp only [DataW.atKey, ents, List.map_cons, List.find?_cons, at?] at ih ⊢
    by_cases h : p.1 = n
    · simp [Lit.sameKey, h]
    · have h2 : (p.1 == n) = false := by simpa using h
      have h3 : Lit.sameKey (.int .i64 p.1) (.int .i64 n) = false := by simp [Lit.sameKey, h]
      rw [h2, h3]
      exact ih
theorem ents_del : ∀ (l : List (Int × Nat)) (n : Int), (DataW.map (ents l)).del (.int .i64 n) = .map (ents (del n l)) := by
  intro l n
  rw [DataW.del_eq]
  congr 1
  unfold ents del delKey notKey
  rw [List.filter_map]
  congr 1
  apply List.filter_congr
  intro p _
  by_cases h : p.1 = n <;> simp [Lit.sameKey, h]
theorem ins_mem {n : Int} {b : Nat} : ∀ {l : List (Int × Nat)} {p : Int × Nat}, p ∈ ins n b l → p = (n, b) ∨ p ∈ l
  | [], p, h => by simp [ins] at h; exact .inl h
  | x :: r, p, h => by
    unfold ins at h
    split at h
    · rcases List.mem_cons.1 h with h | h
      · exact .inl h
      · exact .inr h
    · split at h
      · rcases List.mem_cons.1 h with h | h
        · exact .inl h
        · exact .inr (List.mem_cons.2 (.inr h))
      · rcases List.mem_cons.1 h with h | h
        · exact .inr (List.mem_cons.2 (.inl h))
        · rcases ins_mem h with h | h
          · exact .inl h
          · exact .inr (List.mem_cons.2 (.inr h))
theorem ins_sorted {n : Int} {b : Nat} : ∀ {l : List (Int × Nat)}, l.Pairwise (fun p q => p.1 < q.1) → (ins n b l).Pairwise (fun p q => p.1 < q.1)
  | [], _ => by simp [ins]
  | x :: r, h => by
    obtain ⟨h1, h2⟩ := List.pairwise_cons.1 h
    unfold ins
    split
    · rename_i hlt
      refine List.pairwise_cons.2 ⟨fun q hq => ?_, h⟩
      rcases List.mem_cons.1 hq with rfl | hq
      · exact hlt
      · have := h1 q hq
        show n < q.1
        omega
    · split
      · rename_i he
        refine List.pairwise_cons.2 ⟨fun q hq => ?_, h2⟩
        have := h1 q hq
        show n < q.1
        omega
      · rename_i ha hb
        refine List.pairwise_cons.2 ⟨fun q hq => ?_, ins_sorted h2⟩
        rcases ins_mem hq with rfl | hq
        · show x.1 < n
          omega
        · exact h1 q hq
/-- Ahead of a rising list nothing turns. -/
theorem insert_ents {n : Int} {b : Nat} : ∀ {l : List (Int × Nat)}, (∀ p ∈ l, p.1 ≠ n) → DataW.insert (.int .i64 n, .held (b + 1)) (ents l) = ents (ins n b l)
  | [], _ => rfl
  | x :: r, h => by
    have hx : x.1 ≠ n := h x (List.mem_cons.2 (.inl rfl))
    have ih := insert_ents (n := n) (b := b) (l := r) (fun p hp => h p (List.mem_cons.2 (.inr hp)))
    unfold ins
    show DataW.insert _ (_ :: ents r) = _
    unfold DataW.insert
    by_cases hlt : n < x.1
    · simp [Lit.before, hlt, ents]
    · have hb : Lit.before (.int .i64 n) (.int .i64 x.1) = false := by simp [Lit.before]; omega
      simp only [hb, hlt, hx, if_false, Bool.false_eq_true]
      rw [ih]
      rfl
theorem ins_del {n : Int} {b : Nat} : ∀ {l : List (Int × Nat)}, l.Pairwise (fun p q => p.1 < q.1) → ins n b (del n l) = ins n b l
  | [], _ => rfl
  | x :: r, h => by
    obtain ⟨h1, h2⟩ := List.pairwise_cons.1 h
    have ih := ins_del (n := n) (b := b) h2
    unfold del at ih ⊢
    by_cases hx : x.1 = n
    · have hr : r.filter (fun p => !(p.1 == n)) = r := List.filter_eq_self.2 fun p hp => by
        have := h1 p hp
        have : p.1 ≠ n := by omega
        simpa using this
      rw [List.filter_cons_of_neg (by simp [hx]), hr]
      conv => rhs; unfold ins
      rw [if_neg (by omega), if_pos hx]
      cases r with
      | nil => rfl
      | cons y r' =>
        have := h1 y (List.mem_cons.2 (.inl rfl))
        unfold ins
        rw [if_pos (by omega)]
    · rw [List.filter_cons_of_pos (by simpa using hx)]
      unfold ins
      rw [ih]
      split
      · rename_i hlt
        have hr : r.filter (fun p => !(p.1 == n)) = r := List.filter_eq_self.2 fun p hp => by
          have := h1 p hp
          have : p.1 ≠ n := by omega
          simpa using this
        rw [hr]
      · simp [hx]
theorem ents_put (l : List (Int × Nat)) (n : Int) (b : Nat) (h : l.Pairwise (fun p q => p.1 < q.1)) : (DataW.map (ents l)).put (.int .i64 n) (.held (b + 1)) = .map (ents (ins n b l)) := by
  have h1 := ents_del l n
  rw [DataW.del_eq] at h1
  injection h1 with h1
  rw [DataW.put_eq]
  congr 1
  unfold putKey
  have h2 : (ents l).filter (notKey (.int .i64 n)) = ents (del n l) := h1
  rw [h2, insert_ents (fun p hp => by have := (List.mem_filter.1 hp).2; simpa using this), ins_del h]
theorem del_sorted {n : Int} {l : List (Int × Nat)} (h : l.Pairwise (fun p q => p.1 < q.1)) : (del n l).Pairwise (fun p q => p.1 < q.1) := h.filter _

/-- Block mb is a map of these keys and blocks. -/
def Mp (P : Program) (k : TypeId) (g : Value → Option Nat) (w : World) (mb : Nat) (l : List (Int × Nat)) : Prop :=
  l.Pairwise (fun p q => p.1 < q.1) ∧ (∀ p ∈ l, -9223372036854775808 ≤ p.1 ∧ p.1 ≤ 9223372036854775807) ∧ w.ownsMap P k (tokR g) mb l.length (.map (ents l))
section
variable {P : Program} {k e t : TypeId} {g : Value → Option Nat} {w : World} {mb : Nat} {l : List (Int × Nat)}
theorem Mp.kp {S : Nat → Prop} {w1 : World} (h : Mp P k g w mb l) (hk : Kp S w w1) (hn : ¬ S mb) : Mp P k g w1 mb l := by
  obtain ⟨h1, h2, es, clock, hb, r⟩ := h
  exact ⟨h1, h2, es, clock, hk.heap hb hn, r⟩
theorem Mp.keep {w1 : World} (h : Mp P k g w mb l) (hk : Kp No w w1) : Mp P k g w1 mb l := h.kp hk id
theorem Mp.lt (h : Mp P k g w mb l) : mb < w.heap.size := h.2.2.lt
theorem owns_len {n : Nat} {es : List (Lit × DataW Nat)} (h : w.ownsMap P k (tokR g) mb n (.map es)) : w.ownsMap P k (tokR g) mb es.length (.map es) := by
  obtain ⟨a, clock, hb, F, hs, hD⟩ := h
  injection hD with hD
  refine ⟨a, clock, hb, F, ?_, by rw [hD]⟩
  rw [hD, length_sorted]
  simp
theorem Mp.made (w : World) : Mp P k g (w.alloc (.map #[] 0)) w.heap.size [] := ⟨List.Pairwise.nil, (fun _ h => by cases h), World.ownsMap_made w P k _⟩
theorem wf64 {n : Int} (hn : -9223372036854775808 ≤ n ∧ n ≤ 9223372036854775807) : (Lit.int .i64 n).wf = true := by
  show (decide (IntKind.i64.min ≤ n) && decide (n ≤ IntKind.i64.max)) = true
  rw [show IntKind.i64.min = -9223372036854775808 from rfl, show IntKind.i64.max = 9223372036854775807 from rfl]
  simp [hn]
theorem Mp.look1 (c : Bool) (h : Mp P k g w mb l) (K : Maps.Keyed P k) (hk : P.underlying k = some (.int .i64)) (ht : P.underlying t = some (.map k e)) {z : Value} (hz : ∀ w, (zeroValue e).run P w = .ok z w) (hzg : g z = some 0)
    (n : Int) (hn : -9223372036854775808 ≤ n ∧ n ≤ 9223372036854775807) :
    (at? l n = none ∧ (Instr.lookup t (.map (some mb)) (.int .i64 n) c).run P w = .ok (if c then .tuple #[z, .bool false] else z) w) ∨
    ∃ b v, at? l n = some b ∧ g v = some (b + 1) ∧ (Instr.lookup t (.map (some mb)) (.int .i64 n) c).run P w = .ok (if c then .tuple #[v, .bool true] else v) w := by
  have hkey := Maps.keyOf_int_mk hk (wf64 hn)
  obtain ⟨h1, h2, es, clock, hb, F, hs, hD⟩ := h
  have hat0 : ∀ zd, (DataW.map ((es.toList.map (WideElems.rg P k (tokR g))).foldr DataW.insert [])).atKey (.int .i64 n) zd = match at? l n with | some b => .held (b + 1) | none => zd := fun zd => by rw [← hD, ents_atKey]
  rcases Maps.fit_look (w := w) c K ht (hz w) hb F hkey with ⟨hrun, _, hat⟩ | ⟨e0, y, _, _, hrun, hRv, hat, _⟩
  · cases ha : at? l n with
    | none => exact .inl ⟨rfl, hrun⟩
    | some b =>
      exfalso
      have e1 := (hat0 .nil).symm.trans (hat .nil)
      rw [ha] at e1
      cases e1
  · cases ha : at? l n with
    | none =>
      exfalso
      have e1 := (hat0 .nil).symm.trans (hat .nil)
      have e2 := (hat0 (.held 0)).symm.trans (hat (.held 0))
      rw [ha] at e1 e2
      simp only at e1 e2
      rw [← e1] at e2
      cases e2
    | some b =>
      have e1 := (hat0 .nil).symm.trans (hat .nil)
      rw [ha] at e1
      simp only at e1
      obtain ⟨y1, y2⟩ := y
      simp only at e1
      subst e1
      exact .inr ⟨b, e0.val, rfl, tokR_inv hRv, hrun⟩
/-- 'p, is := m[n]', 'm[n]'. -/
theorem Mp.look (h : Mp P k g w mb l) (K : Maps.Keyed P k) (hk : P.underlying k = some (.int .i64)) (ht : P.underlying t = some (.map k e)) {z : Value} (hz : ∀ w, (zeroValue e).run P w = .ok z w) (hzg : g z = some 0)
    (mk : Nat → Value) (inv : ∀ v b, g v = some (b + 1) → v = mk b) (n : Int) (hn : -9223372036854775808 ≤ n ∧ n ≤ 9223372036854775807) :
    (at? l n = none ∧ (Instr.lookup t (.map (some mb)) (.int .i64 n) true).run P w = .ok (.tuple #[z, .bool false]) w ∧ (Instr.lookup t (.map (some mb)) (.int .i64 n) false).run P w = .ok z w) ∨
    ∃ b, at? l n = some b ∧ (Instr.lookup t (.map (some mb)) (.int .i64 n) true).run P w = .ok (.tuple #[mk b, .bool true]) w ∧ (Instr.lookup t (.map (some mb)) (.int .i64 n) false).run P w = .ok (mk b) w := by
  rcases h.look1 true K hk ht hz hzg n hn with ⟨h1, r1⟩ | ⟨b, v, h1, hv, r1⟩
  · rcases h.look1 false K hk ht hz hzg n hn with ⟨h2, r2⟩ | ⟨b', v', h2, hv', r2⟩
    · exact .inl ⟨h1, r1, r2⟩
    · rw [h1] at h2; cases h2
  · rcases h.look1 false K hk ht hz hzg n hn with ⟨h2, r2⟩ | ⟨b', v', h2, hv', r2⟩
    · rw [h1] at h2; cases h2
    · rw [h1] at h2
      obtain rfl := Option.some.inj h2
      obtain rfl := inv v b hv
      obtain rfl := inv v' b hv'
      exact .inr ⟨b, h1, r1, r2⟩
/-- 'm[n] = v' at the operation. -/
theorem mp_put {ops : Array Oper} {rest : List Oper} {o : Oper} {a : Act} {Q : Exit → Act → World → Prop} (hgd : o.guard = none) (m x v : Operand) (t : TypeId) (hop : o.op = Op.mapUpdate t m x v)
    (k e : TypeId) (g : Value → Option Nat) (K : Maps.Keyed P k) (hk : P.underlying k = some (.int .i64)) (ht : P.underlying t = some (.map k e)) (mb : Nat) (hm : a.eval m = .map (some mb)) (n : Int) (hx : a.eval x = .int .i64 n) (b : Nat) (val : Value) (hv : a.eval v = val) (hg : g val = some (b + 1))
    (hn : -9223372036854775808 ≤ n ∧ n ≤ 9223372036854775807) (l : List (Int × Nat)) (h : Mp P k g w mb l) (hl : l.length < 1000000000)
    (hK : ∀ w', Mp P k g w' mb (ins n b l) → Kp (Is mb) w w' → wpList P ops Q rest (a.put o.dst undef) w') : wpList P ops Q (o :: rest) a w := by
  refine wpList_mapUpdate_own w hgd m x v t hop k e K ht (tokR g) mb l.length _ hm h.2.2 (by unfold maxLen; omega) _ val (.int .i64 n) hx hv (Maps.keyOf_int_mk hk (wf64 hn)) (.held (b + 1)) [] (by simp [tokR, hg]) fun w' h' hgr => ?_
  rw [ents_put l n b h.1] at h'
  refine hK w' ⟨ins_sorted h.1, fun p hp => ?_, ?_⟩ ((Kp.refl (Is mb) w).grown hgr fun k hk => .inl (by cases hk; rfl))
  · rcases ins_mem hp with rfl | hp
    · exact hn
    · exact h.2.1 p hp
  · have := owns_len h'
    rwa [show (ents (ins n b l)).length = (ins n b l).length by simp [ents]] at this
/-- 'delete(m, n)' at the operation. -/
theorem mp_del {ops : Array Oper} {rest : List Oper} {o : Oper} {a : Act} {Q : Exit → Act → World → Prop} (hgd : o.guard = none) (m x : Operand) (t k : TypeId) (hop : o.op = Op.call { callee := Callee.builtin Builtin.delete, args := #[m, x], argTypes := #[t, k] })
    (e : TypeId) (g : Value → Option Nat) (K : Maps.Keyed P k) (hk : P.underlying k = some (.int .i64)) (ht : P.underlying t = some (.map k e)) (mb : Nat) (hm : a.eval m = .map (some mb)) (n : Int) (hx : a.eval x = .int .i64 n)
    (hn : -9223372036854775808 ≤ n ∧ n ≤ 9223372036854775807) (l : List (Int × Nat)) (h : Mp P k g w mb l)
    (hK : ∀ w', Mp P k g w' mb (del n l) → Kp (Is mb) w w' → wpList P ops Q rest (a.put o.dst (.tuple #[])) w') : wpList P ops Q (o :: rest) a w := by
  refine wpList_delete_own w hgd m x t k hop e K ht (tokR g) mb l.length _ hm h.2.2 _ (.int .i64 n) hx (Maps.keyOf_int_mk hk (wf64 hn)) fun w' h' hgr => ?_
  rw [ents_del l n] at h'
  refine hK w' ⟨del_sorted h.1, fun p hp => h.2.1 p (List.mem_filter.1 hp).1, ?_⟩ ((Kp.refl (Is mb) w).grown hgr.grown fun k hk => .inl (by cases hk; rfl))
  have := owns_len h'
  rwa [show (ents (del n l)).length = (del n l).length by simp [ents]] at this

theorem at?_mem {l : List (Int × Nat)} {n : Int} {b : Nat} (h : at? l n = some b) : (n, b) ∈ l := by
  unfold at? at h
  cases hf : l.find? (·.1 == n) with
  | none => rw [hf] at h; cases h
  | some p =>
    rw [hf] at h
    have h1 := List.find?_some hf
    have h2 := List.mem_of_find?_eq_some hf
    obtain ⟨p1, p2⟩ := p
    simp at h h1
    subst h
    subst h1
    exact h2
/-- A range over the map under way: 'rest' is still to come. -/
def Rg (P : Program) (k : TypeId) (g : Value → Option Nat) (w : World) (mb r : Nat) (l rest : List (Int × Nat)) (cnt : Nat) : Prop :=
  l.Pairwise (fun p q => p.1 < q.1) ∧ (∀ p ∈ l, -9223372036854775808 ≤ p.1 ∧ p.1 ≤ 9223372036854775807) ∧ ∃ left, w.ranges P k (tokR g) mb r l.length (.map (ents l)) left cnt ∧ rest = l.filter fun p => left (.int .i64 p.1)
theorem Rg.kp {r cnt : Nat} {rest : List (Int × Nat)} {S : Nat → Prop} {w1 : World} (h : Rg P k g w mb r l rest cnt) (hk : Kp S w w1) (hn : ¬ S mb) (hr : ¬ S r) : Rg P k g w1 mb r l rest cnt := by
  obtain ⟨h1, h2, left, ⟨es, clock, since, seen, c0, hb, F, hs, hD, hi, rs⟩, h4⟩ := h
  exact ⟨h1, h2, left, ⟨es, clock, since, seen, c0, hk.heap hb hn, F, hs, hD, hk.heap hi hr, rs⟩, h4⟩
theorem Rg.mp {r cnt : Nat} {rest : List (Int × Nat)} (h : Rg P k g w mb r l rest cnt) : Mp P k g w mb l := by
  obtain ⟨h1, h2, left, h3, _⟩ := h
  exact ⟨h1, h2, h3.owns⟩
theorem Rg.left_eq {r cnt : Nat} {rest : List (Int × Nat)} (h : Rg P k g w mb r l rest cnt) : w.rangeLeft mb r = cnt := by
  obtain ⟨h1, h2, left, h3, _⟩ := h
  exact h3.left_eq
theorem mp_range {ops : Array Oper} {rest : List Oper} {o : Oper} {a : Act} {Q : Exit → Act → World → Prop} (hgd : o.guard = none) (m : Operand) (t : TypeId) (hop : o.op = Op.range t m)
    (k e : TypeId) (g : Value → Option Nat) (K : Maps.Keyed P k) (ht : P.underlying t = some (.map k e)) (mb : Nat) (hm : a.eval m = .map (some mb)) (l : List (Int × Nat)) (h : Mp P k g w mb l)
    (hK : ∀ w', Rg P k g w' mb w.heap.size l l l.length → Kp No w w' → w'.heap.size = w.heap.size + 1 → wpList P ops Q rest (a.put o.dst (.pointer (some ⟨w.heap.size, 0, none⟩))) w') : wpList P ops Q (o :: rest) a w := by
  refine wpList_range_own w hgd m t hop k e K ht (tokR g) mb l.length _ hm h.2.2 fun w' hr hgr hs => ?_
  have hsz : Maps.size (DataW.map (ents l)) = l.length := by simp [Maps.size, ents]
  rw [hsz] at hr
  refine hK w' ⟨h.1, h.2.1, Maps.has (.map (ents l)), hr, (List.filter_eq_self.2 fun p hp => ?_).symm⟩ ((Kp.refl No w).grown hgr fun k hk => by cases hk) hs
  show (ents l).any _ = true
  exact List.any_eq_true.2 ⟨_, List.mem_map.2 ⟨p, hp, rfl⟩, by simp [Lit.sameKey]⟩
theorem mp_next {ops : Array Oper} {rest : List Oper} {o : Oper} {a : Act} {Q : Exit → Act → World → Prop} (hgd : o.guard = none) (it : Operand) (hop : o.op = Op.next it false)
    (k : TypeId) (g : Value → Option Nat) (K : Maps.Keyed P k) (hk : P.underlying k = some (.int .i64)) (val : Nat → Value) (inv : ∀ v b, g v = some b → v = val b) (mb r cnt : Nat) (hit : a.eval it = .pointer (some ⟨r, 0, none⟩)) (l more : List (Int × Nat)) (h : Rg P k g w mb r l more cnt)
    (hDone : more = [] → wpList P ops Q rest (a.put o.dst (.tuple #[.bool false])) w)
    (hMore : ∀ (n : Int) (b : Nat) (w' : World) (cnt' : Nat), (n, b) ∈ more → (n, b) ∈ l → Rg P k g w' mb r l (del n more) cnt' → cnt' < cnt → Kp (Is r) w w' → w'.heap.size = w.heap.size → (Instr.entry (.pointer (some ⟨r, 0, none⟩))).run P w' = .ok (.tuple #[.int .i64 n, val (b + 1)]) w' →
      wpList P ops Q rest (a.put o.dst (.tuple #[.bool true, .int .i64 n, val (b + 1)])) w') : wpList P ops Q (o :: rest) a w := by
  obtain ⟨h1, h2, left, hr, rfl⟩ := h
  refine wpList_next_ranges w hgd it hop k K (tokR g) (Value.int .i64) val (fun key kl hkey => by obtain ⟨x, rfl, _⟩ := Maps.keyOf_int_inv hk hkey; exact ⟨x, rfl⟩)
    (fun v y hv => by
      unfold tokR at hv
      cases hg : g v with
      | none => rw [hg] at hv; cases hv
      | some b => exact ⟨b, inv v b hg⟩) mb r l.length _ left cnt hit hr ?_ ?_
  · intro _ hl0
    exact hDone (List.filter_eq_nil_iff.2 fun p hp => by simp [hl0])
  · intro x c kl y w' cnt' hkey hlk hv hat hrg hlt hgr hsz hen
    obtain ⟨x', ex, rfl, hwx⟩ := Maps.keyOf_int_inv hk hkey
    cases ex
    have hat' : ∀ zd, (match at? l x with | some b => DataW.held (b + 1) | none => zd) = y.1 := fun zd => by rw [← ents_atKey]; exact hat zd
    cases ha : at? l x with
    | none =>
      exfalso
      have e1 := hat' .nil
      have e2 := hat' (.held 0)
      rw [ha] at e1 e2
      simp only at e1 e2
      rw [← e1] at e2
      cases e2
    | some b =>
      have e1 := hat' .nil
      rw [ha] at e1
      simp only at e1
      obtain ⟨y1, y2⟩ := y
      simp only at e1
      subst e1
      have hc : val c = val (b + 1) := inv _ _ (tokR_inv hv)
      rw [hc] at hen ⊢
      have hmem := at?_mem ha
      refine hMore x b w' cnt' (List.mem_filter.2 ⟨hmem, hlk⟩) hmem ⟨h1, h2, _, hrg, ?_⟩ hlt ((Kp.refl (Is r) w).grown hgr fun k hk => .inl (by cases hk; rfl)) hsz hen
      unfold del
      rw [List.filter_filter]
      refine List.filter_congr fun p _ => ?_
      by_cases hp : p.1 = x
      · simp [Lit.sameKey, hp]
      · simp [Lit.sameKey, hp]
end
end Go.Proofs.Ytnonbimelkagpaa
