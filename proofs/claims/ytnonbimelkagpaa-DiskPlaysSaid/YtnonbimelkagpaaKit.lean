/- Words for memory, over any program: what a slice reads as, what a call keeps, appending to a row of one's own. -/
import Derived.WalkKit
import Derived.KernelRfl
import Derived.Below
import Derived.RowKit3
import Derived.Tactics
import Derived.OwnWalk
import Derived.Laws.OwnMore
import Derived.Laws.MakeOwn
import Derived.Laws.BytesArg
import Derived.Laws.Slices
import Derived.Laws.Rows
import Derived.Maps.AppendAt
import Derived.Deep.AppendLies
import Derived.Deep.Draws
import Derived.Deep.LoopGhost
import Derived.Deep.QuietTactic
import Derived.BigQuiet
import Derived.RegionTactic
import Derived.Lib.Hide
import Derived.Lib.AppendStr
import Derived.Lib.ConvBytes
import Derived.Laws.BytesString
import Derived.Laws.Cells
import Derived.Deep.DeepMust
import Derived.Outline
import Derived.Deep.DeepCutAuto
import Derived.Deep.CutBlock
import Derived.Deep.RegionHeld3
namespace Go.Proofs.Ytnonbimelkagpaa
set_option linter.unusedVariables false
set_option linter.unusedSimpArgs false
open Go.RowKit Go.Lib

/-- A fact kept from the walk. -/
structure As (p : Prop) : Prop where mk :: (out : p)

/-! ### what a call keeps -/
structure Kp (S : Nat → Prop) (w w' : World) : Prop where
  os : w'.os = w.os
  tape : w'.tape = w.tape
  output : w'.output = w.output
  size : w.heap.size ≤ w'.heap.size
  block : ∀ k, k < w.heap.size → ¬ S k → w'.heap[k]? = w.heap[k]?
def No : Nat → Prop := fun _ => False

section
variable {S T : Nat → Prop} {w w1 w2 : World}
theorem Kp.refl (S : Nat → Prop) (w : World) : Kp S w w := ⟨rfl, rfl, rfl, Nat.le_refl _, fun _ _ _ => rfl⟩
theorem Kp.trans (h : Kp S w w1) (k : Kp T w1 w2) (hs : ∀ g, g < w.heap.size → T g → S g) : Kp S w w2 :=
  ⟨k.os.trans h.os, k.tape.trans h.tape, k.output.trans h.output, Nat.le_trans h.size k.size, fun g hg hn =>
    (k.block g (Nat.lt_of_lt_of_le hg h.size) (fun ht => hn (hs g hg ht))).trans (h.block g hg hn)⟩
theorem Kp.mono (h : Kp S w w1) (hs : ∀ g, g < w.heap.size → S g → T g) : Kp T w w1 :=
  ⟨h.os, h.tape, h.output, h.size, fun g hg hn => h.block g hg (fun ht => hn (hs g hg ht))⟩
theorem Kp.then_ (h : Kp S w w1) (k : Kp No w1 w2) : Kp S w w2 := h.trans k (fun _ _ hf => hf.elim)
theorem Kp.drew (h : Kp S w w1) : Kp S w w1.drew := ⟨h.os, h.tape, h.output, h.size, h.block⟩
theorem Kp.drewN (h : Kp S w w1) (n : Nat) : Kp S w (w1.drewN n) := ⟨h.os, h.tape, h.output, h.size, h.block⟩
theorem Kp.alloc (h : Kp S w w1) (o : Obj) : Kp S w (w1.alloc o) :=
  ⟨h.os, h.tape, h.output, Nat.le_trans h.size (by simp), fun g hg hn => (Below.heap_alloc w1 o g (Nat.lt_of_lt_of_le hg h.size)).trans (h.block g hg hn)⟩
theorem Kp.setCell (h : Kp S w w1) {p : Addr} (hp : S p.block ∨ w.heap.size ≤ p.block) (u : Value) : Kp S w (w1.setCell p u) :=
  ⟨h.os, h.tape, h.output, by simpa [World.setCell] using h.size, fun g hg hn => (Below.heap_setCell w1 p u g (by
    rintro rfl
    rcases hp with hp | hp
    · exact hn hp
    · omega)).trans (h.block g hg hn)⟩
theorem Kp.grown {row : Option Nat} (h : Kp S w w1) (hg : w1.grownBy w2 row) (hr : ∀ k, row = some k → S k ∨ w.heap.size ≤ k) : Kp S w w2 :=
  ⟨hg.os.trans h.os, hg.tape.trans h.tape, hg.output.trans h.output, Nat.le_trans h.size hg.size, fun g hlt hn => (hg.block g (Nat.lt_of_lt_of_le hlt h.size) (fun e => by
    rcases hr g e.symm with hp | hp
    · exact hn hp
    · omega)).trans (h.block g hlt hn)⟩
theorem Kp.below (h : Kp No w w1) : Below w.heap.size w w1 := ⟨h.os, h.tape, h.output, h.size, fun k hk => h.block k hk id⟩
theorem Kp.of_below (h : Below w.heap.size w w1) : Kp No w w1 := ⟨h.os, h.tape, h.output, h.size, fun k hk _ => h.block k hk⟩
theorem Kp.cell (h : Kp S w w1) {a : Addr} {v : Value} (hc : w.cell? a = some v) (hn : ¬ S a.block) : w1.cell? a = some v :=
  (World.cell?_of_block (h.block _ (World.block_lt_of_cell? w a hc) hn)).trans hc
theorem Kp.heap {g : Nat} {o : Obj} (h : Kp S w w1) (hc : w.heap[g]? = some o) (hn : ¬ S g) : w1.heap[g]? = some o :=
  (h.block g (Array.getElem?_eq_some_iff.1 hc).1 hn).trans hc
end

/-! ### a slice that is read -/
theorem add_block (a : Addr) (n : Nat) : (a.add n).block = a.block := by unfold Addr.add; split <;> rfl
theorem add_add' (a : Addr) (i j : Nat) : (a.add i).add j = a.add (i + j) := by
  unfold Addr.add
  by_cases hi : i = 0 <;> by_cases hj : j = 0 <;> simp [hi, hj, Nat.add_assoc]
theorem add_plain' (g o j : Nat) : (⟨g, o, none⟩ : Addr).add j = ⟨g, o + j, none⟩ := by unfold Addr.add; split <;> simp_all

/-- A reads as the cells cs; they lie in blocks of F. -/
def Rd (w : World) (F : Nat → Prop) (A : Option Addr) (cs : List Value) : Prop :=
  0 < cs.length → ∃ ad, A = some ad ∧ F ad.block ∧ ∀ j u, cs[j]? = some u → w.cell? (ad.add j) = some u

section
variable {F G S : Nat → Prop} {w w1 w2 : World} {A : Option Addr} {cs : List Value}
theorem Rd.nil (w : World) (F : Nat → Prop) (A : Option Addr) : Rd w F A [] := fun h => absurd h (by simp)
theorem Rd.at_ (h : Rd w F A cs) {j : Nat} {u : Value} (hj : cs[j]? = some u) : ∃ ad, A = some ad ∧ F ad.block ∧ w.cell? (ad.add j) = some u := by
  obtain ⟨ad, e, hf, hc⟩ := h (by have := (List.getElem?_eq_some_iff.1 hj).1; omega)
  exact ⟨ad, e, hf, hc j u hj⟩
theorem Rd.kp (h : Rd w F A cs) (hk : Kp S w w1) (hn : ∀ k, F k → ¬ S k) : Rd w1 F A cs := fun hp => by
  obtain ⟨ad, e, hf, hc⟩ := h hp
  exact ⟨ad, e, hf, fun j u hu => hk.cell (hc j u hu) (by rw [add_block]; exact hn _ hf)⟩
theorem Rd.keep (h : Rd w F A cs) (hk : Kp No w w1) : Rd w1 F A cs := h.kp hk (fun _ _ hf => hf)
theorem Rd.mono (h : Rd w F A cs) (hf : ∀ k, F k → G k) : Rd w G A cs := fun hp => by
  obtain ⟨ad, e, hfb, hc⟩ := h hp
  exact ⟨ad, e, hf _ hfb, hc⟩
theorem Rd.cut (h : Rd w F A cs) (k : Nat) (b : Bool) (hb : b = true → cs.length ≤ k) : Rd w F (if b then A else A.map (·.add k)) (cs.drop k) := fun hp => by
  rw [List.length_drop] at hp
  obtain ⟨ad, rfl, hf, hc⟩ := h (by omega)
  have hbf : b = false := by
    cases b with
    | false => rfl
    | true => have := hb rfl; omega
  subst hbf
  refine ⟨ad.add k, rfl, by rw [add_block]; exact hf, fun j u hu => ?_⟩
  rw [add_add']
  exact hc _ u (by rw [← hu, List.getElem?_drop])
theorem Rd.take (h : Rd w F A cs) (k : Nat) : Rd w F A (cs.take k) := fun hp => by
  rw [List.length_take] at hp
  obtain ⟨ad, rfl, hf, hc⟩ := h (by omega)
  exact ⟨ad, rfl, hf, fun j u hu => hc j u (by rw [List.getElem?_take] at hu; split at hu <;> simp_all)⟩
end

/-! ### a row of one's own -/
/-- v is nil, or begins its block; that block is of F. -/
def Own (w : World) (F : Nat → Prop) (E sz : Nat) (v : Value) (n : Nat) (cs : List Value) : Prop :=
  w.ownsRow 0 E sz v n cs ∧ ∀ k, v.ownBlock = some k → F k

section
variable {F G S : Nat → Prop} {w w1 w2 : World} {E sz n : Nat} {v : Value} {cs : List Value}
theorem Own.nil (w : World) (F : Nat → Prop) (E sz : Nat) : Own w F E sz (.slice none 0 0) 0 [] := ⟨World.ownsRow_nil w 0 E sz, by simp [Value.ownBlock]⟩
theorem Own.len (h : Own w F E sz v n cs) : cs.length = n * sz := h.1.1
theorem Own.lt (h : Own w F E sz v n cs) (k : Nat) (hk : v.ownBlock = some k) : k < w.heap.size := (h.1.lt k hk).2
theorem Own.mono (h : Own w F E sz v n cs) (hf : ∀ k, k < w.heap.size → F k → G k) : Own w G E sz v n cs := ⟨h.1, fun k hk => hf k (h.lt k hk) (h.2 k hk)⟩
theorem Own.kp (h : Own w F E sz v n cs) (hk : Kp S w w1) (hn : ∀ k, F k → ¬ S k) : Own w1 F E sz v n cs := by
  refine ⟨⟨h.1.1, ?_⟩, h.2⟩
  rcases h.1.2 with h0 | ⟨g, cap, cur, rfl, hb, hh, r⟩
  · exact .inl h0
  · exact .inr ⟨g, cap, cur, rfl, hb, hk.heap hh (hn g (h.2 g rfl)), r⟩
theorem Own.keep (h : Own w F E sz v n cs) (hk : Kp No w w1) : Own w1 F E sz v n cs := h.kp hk (fun _ _ hf => hf)
/-- Its shape, and what it reads as. -/
theorem Own.read (h : Own w F E sz v n cs) : ∃ A c, v = .slice A n c ∧ n ≤ c ∧ c ≤ maxLen ∧ Rd w (fun k => F k ∧ k < w.heap.size) A cs := by
  rcases h.1.2 with ⟨rfl, h0⟩ | ⟨g, cap, cur, rfl, hb, hh, hc, hm, r⟩
  · subst h0
    refine ⟨none, 0, rfl, Nat.le_refl _, by unfold maxLen; omega, fun hp => ?_⟩
    have := h.len
    omega
  · exact ⟨_, cap, rfl, hc, hm, fun _ => ⟨_, rfl, ⟨h.2 g rfl, (Array.getElem?_eq_some_iff.1 hh).1⟩, h.1.cells (g := g) rfl⟩⟩
theorem Own.le (h : Own w F E sz v n cs) : n ≤ maxLen := by
  obtain ⟨A, c, rfl, h1, h2, _⟩ := h.read
  omega
end

/-! ### append onto a row of one's own -/
section
variable {P : Program} (w : World)
theorem run_app_nil (t ty e : TypeId) (i : TypeInfo) (size : Nat) (ht : P.underlying t = some (.slice e)) (hi : P.info? e = some i)
    (v : Value) (n : Nat) (xs : List Value) (hown : w.ownsRow 0 e size v n xs) (c : Nat) : (Builtin.append_ #[t, t] ty #[v, .slice none 0 c]).run P w = .ok v w := by
  rcases hown.2 with ⟨rfl, rfl⟩ | ⟨g, cap, cur, rfl, _, _, hnc, _⟩
  · simp [Builtin.append_, run_underlying ht, sizeOf, typeInfo, hi, Builtin.lenOf, Builtin.firstCells]
  · simp [Builtin.append_, run_underlying ht, sizeOf, typeInfo, hi, Builtin.lenOf, Builtin.firstCells, hnc, storeCells]

theorem run_app (t ty e : TypeId) (z : Value) (size bytes : Nat) (hinfo : (P.info? e).map (fun i => (i.zero, i.size, i.bytes)) = some (some z, size, bytes)) (ht : P.underlying t = some (.slice e))
    (hzs : z.cells.size = size) (hsz : 0 < size) (v : Value) (n : Nat) (xs : List Value) (hown : w.ownsRow 0 e size v n xs)
    (F : Nat → Prop) (A : Option Addr) (m c : Nat) (news : List Value) (hl : news.length = m * size) (hr : Rd w F A news) (h1 : ∀ u ∈ news, u.oneCell' = true)
    (h63 : n + m ≤ maxLen) (hbytes : (n + m) * bytes ≤ 140737488355328) :
    ∃ v' w', (Builtin.append_ #[t, t] ty #[v, .slice A m c]).run P w = .ok v' w' ∧ w'.ownsRow 0 e size v' (n + m) (xs ++ news) ∧ w.grownBy w' v.ownBlock ∧
      (v'.ownBlock = v.ownBlock ∨ v'.ownBlock = some w.heap.size) := by
  obtain ⟨i, hi, hz, hsize, hby⟩ := info_parts hinfo
  rcases A with _ | ad
  · have hm : m = 0 := by
      rcases Nat.eq_zero_or_pos m with h0 | h0
      · exact h0
      · obtain ⟨ad, h, _⟩ := hr (by rw [hl]; exact Nat.mul_pos h0 hsz)
        cases h
    subst hm
    have hn : news = [] := List.eq_nil_of_length_eq_zero (by simpa using hl)
    subst hn
    exact ⟨v, w, run_app_nil w t ty e i size ht hi v n xs hown c, by simpa using hown, World.grownBy.refl w _, .inl rfl⟩
  · have hcells : ∀ j u, news[j]? = some u → w.cell? (ad.add j) = some u := by
      intro j u hu
      obtain ⟨ad', h, _, hc⟩ := hr (by have := (List.getElem?_eq_some_iff.1 hu).1; omega)
      injection h with h
      subst h
      exact hc j u hu
    obtain ⟨v', w', hrun, h2, h3, _, h5⟩ := run_append_own_at (P := P) w 0 t ty e i z size bytes ht hi hz hsize hby hzs hsz v n xs hown ad m c news hl hcells h1 h63 hbytes (Nat.zero_le _)
    exact ⟨v', w', hrun, h2, h3, h5⟩

/-- 'append(v, x...)' at the operation: v one's own, x whatever is read. -/
theorem app {ops : Array Oper} {rest : List Oper} {o : Oper} {a : Act} {Q : Exit → Act → World → Prop} (hgd : o.guard = none) (s x : Operand) (t : TypeId)
    (ho : o.op = .call { callee := .builtin .append, args := #[s, x], argTypes := #[t, t] })
    (e : TypeId) (z : Value) (size bytes : Nat) (hinfo : (P.info? e).map (fun i => (i.zero, i.size, i.bytes)) = some (some z, size, bytes)) (ht : P.underlying t = some (.slice e))
    (hzs : z.cells.size = size) (hsz : 0 < size) (v : Value) (n : Nat) (xs : List Value) (hs : a.eval s = v) {G : Nat → Prop} (hown : Own w G e size v n xs)
    {F : Nat → Prop} (A : Option Addr) (m c : Nat) (news : List Value) (hx : a.eval x = .slice A m c) (hr : Rd w F A news) (hl : news.length = m * size) (h1 : ∀ u ∈ news, u.oneCell' = true)
    (h63 : n + m ≤ maxLen) (hbytes : (n + m) * bytes ≤ 140737488355328)
    (h : ∀ v' w', Own w' (fun k => v.ownBlock = some k ∨ w.heap.size ≤ k) e size v' (n + m) (xs ++ news) → w.grownBy w' v.ownBlock → wpList P ops Q rest (a.put o.dst v') w') : wpList P ops Q (o :: rest) a w := by
  refine wpList_plain hgd fun K hK => ?_
  obtain ⟨v', w', hrun, h2, h3, h4⟩ := run_app (P := P) w t o.type e z size bytes hinfo ht hzs hsz v n xs hown.1 F A m c news hl hr h1 h63 hbytes
  unfold Oper.wp execOp
  simp only [ho, resolve, invoke, builtin, Sem.run_bind, Sem.run_pure, Result.andThen_ok, List.map_toArray, List.map_cons, List.map_nil, hs, hx, hrun]
  exact hK _ _ (h v' w' ⟨h2, fun k hk => by
    rcases h4 with e4 | e4
    · rw [e4] at hk; exact .inl hk
    · rw [e4] at hk; injection hk with hk; exact .inr (by omega)⟩ h3)
/-- 'append(v, x)', one element: the translation has laid it into a block of its own. -/
theorem app1 {ops : Array Oper} {rest : List Oper} {o : Oper} {a : Act} {Q : Exit → Act → World → Prop} (hgd : o.guard = none) (s x : Operand) (t : TypeId)
    (ho : o.op = .call { callee := .builtin .append, args := #[s, x], argTypes := #[t, t] })
    (e : TypeId) (z : Value) (size bytes : Nat) (hinfo : (P.info? e).map (fun i => (i.zero, i.size, i.bytes)) = some (some z, size, bytes)) (ht : P.underlying t = some (.slice e))
    (hzs : z.cells.size = size) (hsz : 0 < size) (v : Value) (n : Nat) (xs : List Value) (hs : a.eval s = v) {G : Nat → Prop} (hown : Own w G e size v n xs)
    (cs : Array Value) (e' : TypeId) (hl : cs.size = size) (h1 : ∀ u ∈ cs.toList, u.oneCell' = true) (hx : a.eval x = .slice (some ⟨w.heap.size, 0, none⟩) 1 1)
    {S : Nat → Prop} {w0 : World} (hK : Kp S w0 w) (hG : ∀ k, w0.heap.size ≤ k → G k) (hS : ∀ k, G k → S k ∨ w0.heap.size ≤ k)
    (h63 : n < maxLen) (hbytes : (n + 1) * bytes ≤ 140737488355328)
    (h : ∀ v' w', Own w' G e size v' (n + 1) (xs ++ cs.toList) → Kp S w0 w' → w.grownBy w' v.ownBlock → wpList P ops Q rest (a.put o.dst v') w') : wpList P ops Q (o :: rest) a (w.alloc (.cells cs e')) := by
  refine app (w := w.alloc (.cells cs e')) hgd s x t ho e z size bytes hinfo ht hzs hsz v n xs hs (hown.keep ((Kp.refl _ _).alloc _)) (F := fun _ => True) (some ⟨w.heap.size, 0, none⟩) 1 1 cs.toList hx ?_ (by simpa using hl) h1 (by omega) hbytes ?_
  · exact fun _ => ⟨_, rfl, trivial, World.news_of_block (heap_alloc_new w _)⟩
  · intro v' w' o1 g1
    refine h v' w' (o1.mono fun k hk hb => ?_) ((hK.alloc _).grown g1 fun k hk => hS k (hown.2 k hk)) ((World.grownBy_alloc w _ _).trans g1)
    rcases hb with hb | hb
    · exact hown.2 k hb
    · exact hG k (by have := hK.size; simp at hb; omega)
end
theorem gate {P : Program} {ops : Array Oper} {rest : List Oper} {o : Oper} {a : Act} {W : World} {Q : Exit → Act → World → Prop} {N : Tmp} (_hN : o.dst = some N) (h : wpList P ops Q (o :: rest) a W) : wpList P ops Q (o :: rest) a W := h

/-! ### bytes -/
def u8s (l : List UInt8) : List Value := l.map fun b => .int .u8 (b.toNat : Int)
theorem u8s_length (l : List UInt8) : (u8s l).length = l.length := by simp [u8s]
theorem u8s_append (l m : List UInt8) : u8s (l ++ m) = u8s l ++ u8s m := by simp [u8s]
theorem u8s_one (l : List UInt8) : ∀ u ∈ u8s l, u.oneCell' = true := by
  intro u hu
  simp only [u8s, List.mem_map] at hu
  obtain ⟨x, _, rfl⟩ := hu
  rfl
theorem u8s_get {l : List UInt8} {j : Nat} {x : UInt8} (h : l[j]? = some x) : (u8s l)[j]? = some (.int .u8 (x.toNat : Int)) := by simp [u8s, h]
theorem strCells_u8s (s : ByteArray) : strCells s = u8s s.data.toList := rfl
theorem size_data (s : ByteArray) : s.data.toList.length = s.size := by rw [Array.length_toList]; rfl

/-- What lies from w0's end on. -/
def New (w0 : World) : Nat → Prop := fun k => w0.heap.size ≤ k
theorem Own.base {w w0 : World} {E sz n : Nat} {v : Value} {cs : List Value} (h : Own w (New w0) E sz v n cs) : w.ownsRow w0.heap.size E sz v n cs := by
  refine ⟨h.1.1, ?_⟩
  rcases h.1.2 with h0 | ⟨g, cap, cur, rfl, hb, r⟩
  · exact .inl h0
  · exact .inr ⟨g, cap, cur, rfl, h.2 g rfl, r⟩
theorem Own.of_base {w : World} {B E sz n : Nat} {v : Value} {cs : List Value} (h : w.ownsRow B E sz v n cs) : Own w (fun k => B ≤ k) E sz v n cs := by
  refine ⟨⟨h.1, ?_⟩, fun k hk => (h.lt k hk).1⟩
  rcases h.2 with h0 | ⟨g, cap, cur, rfl, hb, r⟩
  · exact .inl h0
  · exact .inr ⟨g, cap, cur, rfl, Nat.zero_le _, r⟩

section
variable {P : Program} (w : World)
/-- 'append(v, s...)', s a string. -/
theorem appStr {ops : Array Oper} {rest : List Oper} {o : Oper} {a : Act} {Q : Exit → Act → World → Prop} (hgd : o.guard = none) (sl x : Operand) (t u : TypeId)
    (ho : o.op = .call { callee := .builtin .append, args := #[sl, x], argTypes := #[t, u] })
    (e : TypeId) (hinfo : (P.info? e).map (fun i => (i.zero, i.size, i.bytes)) = some (some (.int .u8 0), 1, 1)) (ht : P.underlying t = some (.slice e)) (hu : P.underlying u = some .string)
    (v : Value) (n : Nat) (xs : List Value) (hs : a.eval sl = v) {w0 : World} (hown : Own w (New w0) e 1 v n xs) (s : ByteArray) (hx : a.eval x = .string s)
    {S : Nat → Prop} (hK : Kp S w0 w) (hbytes : n + s.size ≤ 140737488355328)
    (h : ∀ v' w', Own w' (New w0) e 1 v' (n + s.size) (xs ++ u8s s.data.toList) → Kp S w0 w' → wpList P ops Q rest (a.put o.dst v') w') : wpList P ops Q (o :: rest) a w := by
  obtain ⟨i, hi, hz, hsize, hby⟩ := info_parts hinfo
  refine wpList_append_own_string w hgd sl x t u ho w0.heap.size e i ht hu hi hz hsize hby v n xs hs hown.base s hx (by unfold maxLen; omega) hbytes hK.size ?_
  intro v' w' o1 g1 _
  exact h v' w' (Own.of_base o1) (hK.grown g1 fun k hk => .inr (hown.2 k hk))
/-- '[]byte(s)'. -/
def bytesOf (w : World) (e : TypeId) (s : ByteArray) : World := bytesWorld w e s
theorem Kp.bytes {S : Nat → Prop} {w0 w : World} (h : Kp S w0 w) (e : TypeId) (s : ByteArray) : Kp S w0 (bytesWorld w e s) := by
  refine h.then_ ⟨rfl, rfl, rfl, by rw [bytesWorld_size]; omega, fun k hk _ => bytesWorld_at_old w e s k hk⟩
theorem Rd.bytes (w : World) (e : TypeId) (s : ByteArray) : Rd (bytesWorld w e s) (fun k => k = w.heap.size) (some ⟨w.heap.size, 0, none⟩) (u8s s.data.toList) := by
  refine fun _ => ⟨_, rfl, rfl, fun j u hu => ?_⟩
  simp only [u8s, List.getElem?_map, Option.map_eq_some_iff] at hu
  obtain ⟨x, hx, rfl⟩ := hu
  have hj : j < s.size := by rw [← size_data]; exact (List.getElem?_eq_some_iff.1 hx).1
  rw [add_plain', Nat.zero_add, bytesWorld_cell w e s j hj, List.getD_eq_getElem?_getD, hx]
  rfl
end

/-! ### a block that is known whole -/
section
variable {w w1 : World} {g : Nat} {cs : Array Value} {t : TypeId}
theorem blk_cell (h : w.heap[g]? = some (.cells cs t (0, 0))) (i : Nat) : w.cell? ⟨g, i, none⟩ = cs[i]? := cell_of_row w g i cs t (0, 0) h
theorem blk_at (h : w.heap[g]? = some (.cells cs t (0, 0))) (i : Nat) {v : Value} (hv : cs[i]? = some v) : w.cell? ⟨g, i, none⟩ = some v := (blk_cell h i).trans hv
theorem blk_frozen (h : w.heap[g]? = some (.cells cs t (0, 0))) (i : Nat) : w.frozen? ⟨g, i, none⟩ = false := by simp [World.frozen?, h]
theorem blk1 {a : Value} (h : w.heap[g]? = some (.cells #[a] t (0, 0))) : w.cell? ⟨g, 0, none⟩ = some a ∧ ∀ q, w.frozen? ⟨g, q, none⟩ = false := ⟨(blk_cell h 0).trans rfl, fun q => blk_frozen h q⟩
theorem blk2 {a b : Value} (h : w.heap[g]? = some (.cells #[a, b] t (0, 0))) : w.cell? ⟨g, 0, none⟩ = some a ∧ w.cell? ⟨g, 1, none⟩ = some b ∧ ∀ q, w.frozen? ⟨g, q, none⟩ = false := ⟨(blk_cell h 0).trans rfl, (blk_cell h 1).trans rfl, fun q => blk_frozen h q⟩
theorem blk3 {a b c : Value} (h : w.heap[g]? = some (.cells #[a, b, c] t (0, 0))) : w.cell? ⟨g, 0, none⟩ = some a ∧ w.cell? ⟨g, 1, none⟩ = some b ∧ w.cell? ⟨g, 2, none⟩ = some c ∧ ∀ q, w.frozen? ⟨g, q, none⟩ = false := ⟨(blk_cell h 0).trans rfl, (blk_cell h 1).trans rfl, (blk_cell h 2).trans rfl, fun q => blk_frozen h q⟩
theorem blk4 {a b c d : Value} (h : w.heap[g]? = some (.cells #[a, b, c, d] t (0, 0))) : w.cell? ⟨g, 0, none⟩ = some a ∧ w.cell? ⟨g, 1, none⟩ = some b ∧ w.cell? ⟨g, 2, none⟩ = some c ∧ w.cell? ⟨g, 3, none⟩ = some d ∧ ∀ q, w.frozen? ⟨g, q, none⟩ = false := ⟨(blk_cell h 0).trans rfl, (blk_cell h 1).trans rfl, (blk_cell h 2).trans rfl, (blk_cell h 3).trans rfl, fun q => blk_frozen h q⟩
theorem blk5 {a b c d e : Value} (h : w.heap[g]? = some (.cells #[a, b, c, d, e] t (0, 0))) : w.cell? ⟨g, 0, none⟩ = some a ∧ w.cell? ⟨g, 1, none⟩ = some b ∧ w.cell? ⟨g, 2, none⟩ = some c ∧ w.cell? ⟨g, 3, none⟩ = some d ∧ w.cell? ⟨g, 4, none⟩ = some e ∧ ∀ q, w.frozen? ⟨g, q, none⟩ = false := ⟨(blk_cell h 0).trans rfl, (blk_cell h 1).trans rfl, (blk_cell h 2).trans rfl, (blk_cell h 3).trans rfl, (blk_cell h 4).trans rfl, fun q => blk_frozen h q⟩
theorem blk6 {a b c d e f : Value} (h : w.heap[g]? = some (.cells #[a, b, c, d, e, f] t (0, 0))) : w.cell? ⟨g, 0, none⟩ = some a ∧ w.cell? ⟨g, 1, none⟩ = some b ∧ w.cell? ⟨g, 2, none⟩ = some c ∧ w.cell? ⟨g, 3, none⟩ = some d ∧ w.cell? ⟨g, 4, none⟩ = some e ∧ w.cell? ⟨g, 5, none⟩ = some f ∧ ∀ q, w.frozen? ⟨g, q, none⟩ = false := ⟨(blk_cell h 0).trans rfl, (blk_cell h 1).trans rfl, (blk_cell h 2).trans rfl, (blk_cell h 3).trans rfl, (blk_cell h 4).trans rfl, (blk_cell h 5).trans rfl, fun q => blk_frozen h q⟩
theorem blk7 {a b c d e f i : Value} (h : w.heap[g]? = some (.cells #[a, b, c, d, e, f, i] t (0, 0))) : w.cell? ⟨g, 0, none⟩ = some a ∧ w.cell? ⟨g, 1, none⟩ = some b ∧ w.cell? ⟨g, 2, none⟩ = some c ∧ w.cell? ⟨g, 3, none⟩ = some d ∧ w.cell? ⟨g, 4, none⟩ = some e ∧ w.cell? ⟨g, 5, none⟩ = some f ∧ w.cell? ⟨g, 6, none⟩ = some i ∧ ∀ q, w.frozen? ⟨g, q, none⟩ = false := ⟨(blk_cell h 0).trans rfl, (blk_cell h 1).trans rfl, (blk_cell h 2).trans rfl, (blk_cell h 3).trans rfl, (blk_cell h 4).trans rfl, (blk_cell h 5).trans rfl, (blk_cell h 6).trans rfl, fun q => blk_frozen h q⟩
theorem blk8 {a b c d e f i j : Value} (h : w.heap[g]? = some (.cells #[a, b, c, d, e, f, i, j] t (0, 0))) : w.cell? ⟨g, 0, none⟩ = some a ∧ w.cell? ⟨g, 1, none⟩ = some b ∧ w.cell? ⟨g, 2, none⟩ = some c ∧ w.cell? ⟨g, 3, none⟩ = some d ∧ w.cell? ⟨g, 4, none⟩ = some e ∧ w.cell? ⟨g, 5, none⟩ = some f ∧ w.cell? ⟨g, 6, none⟩ = some i ∧ w.cell? ⟨g, 7, none⟩ = some j ∧ ∀ q, w.frozen? ⟨g, q, none⟩ = false := ⟨(blk_cell h 0).trans rfl, (blk_cell h 1).trans rfl, (blk_cell h 2).trans rfl, (blk_cell h 3).trans rfl, (blk_cell h 4).trans rfl, (blk_cell h 5).trans rfl, (blk_cell h 6).trans rfl, (blk_cell h 7).trans rfl, fun q => blk_frozen h q⟩
theorem blk9 {a b c d e f i j k : Value} (h : w.heap[g]? = some (.cells #[a, b, c, d, e, f, i, j, k] t (0, 0))) : w.cell? ⟨g, 0, none⟩ = some a ∧ w.cell? ⟨g, 1, none⟩ = some b ∧ w.cell? ⟨g, 2, none⟩ = some c ∧ w.cell? ⟨g, 3, none⟩ = some d ∧ w.cell? ⟨g, 4, none⟩ = some e ∧ w.cell? ⟨g, 5, none⟩ = some f ∧ w.cell? ⟨g, 6, none⟩ = some i ∧ w.cell? ⟨g, 7, none⟩ = some j ∧ w.cell? ⟨g, 8, none⟩ = some k ∧ ∀ q, w.frozen? ⟨g, q, none⟩ = false := ⟨(blk_cell h 0).trans rfl, (blk_cell h 1).trans rfl, (blk_cell h 2).trans rfl, (blk_cell h 3).trans rfl, (blk_cell h 4).trans rfl, (blk_cell h 5).trans rfl, (blk_cell h 6).trans rfl, (blk_cell h 7).trans rfl, (blk_cell h 8).trans rfl, fun q => blk_frozen h q⟩
theorem blk10 {a b c d e f i j k l : Value} (h : w.heap[g]? = some (.cells #[a, b, c, d, e, f, i, j, k, l] t (0, 0))) : w.cell? ⟨g, 0, none⟩ = some a ∧ w.cell? ⟨g, 1, none⟩ = some b ∧ w.cell? ⟨g, 2, none⟩ = some c ∧ w.cell? ⟨g, 3, none⟩ = some d ∧ w.cell? ⟨g, 4, none⟩ = some e ∧ w.cell? ⟨g, 5, none⟩ = some f ∧ w.cell? ⟨g, 6, none⟩ = some i ∧ w.cell? ⟨g, 7, none⟩ = some j ∧ w.cell? ⟨g, 8, none⟩ = some k ∧ w.cell? ⟨g, 9, none⟩ = some l ∧ ∀ q, w.frozen? ⟨g, q, none⟩ = false := ⟨(blk_cell h 0).trans rfl, (blk_cell h 1).trans rfl, (blk_cell h 2).trans rfl, (blk_cell h 3).trans rfl, (blk_cell h 4).trans rfl, (blk_cell h 5).trans rfl, (blk_cell h 6).trans rfl, (blk_cell h 7).trans rfl, (blk_cell h 8).trans rfl, (blk_cell h 9).trans rfl, fun q => blk_frozen h q⟩
theorem blk_set (h : w.heap[g]? = some (.cells cs t (0, 0))) (i : Nat) (u : Value) : (w.setCell ⟨g, i, none⟩ u).heap[g]? = some (.cells (cs.setIfInBounds i u) t (0, 0)) := by
  simp [World.setCell, Array.getElem?_modify, h]
theorem blk_drewN {o : Obj} (h : w.heap[g]? = some o) (n : Nat) : (w.drewN n).heap[g]? = some o := h
theorem blk_far (h : w.heap[g]? = some (.cells cs t (0, 0))) {p : Addr} (hp : g ≠ p.block) (u : Value) : (w.setCell p u).heap[g]? = some (.cells cs t (0, 0)) := (Below.heap_setCell w p u g hp).trans h
theorem blk_lt {o : Obj} (h : w.heap[g]? = some o) : g < w.heap.size := (Array.getElem?_eq_some_iff.1 h).1
theorem blk_alloc {o' : Obj} (h : w.heap[g]? = some o') (o : Obj) : (w.alloc o).heap[g]? = some o' := (Below.heap_alloc w o g (blk_lt h)).trans h
theorem blk_new (w : World) (cs : Array Value) (t : TypeId) : (w.alloc (.cells cs t)).heap[w.heap.size]? = some (.cells cs t (0, 0)) := heap_alloc_new w _
end
theorem blk_new_at {w : World} {n : Nat} (h : w.heap.size = n) (cs : Array Value) (t : TypeId) : (w.alloc (.cells cs t)).heap[n]? = some (.cells cs t (0, 0)) := by subst h; exact blk_new w cs t
def Is (g : Nat) : Nat → Prop := fun k => k = g
theorem Kp.set {w w1 : World} {g : Nat} (h : Kp (Is g) w w1) (i : Nat) (u : Value) : Kp (Is g) w (w1.setCell ⟨g, i, none⟩ u) := h.setCell (p := ⟨g, i, none⟩) (.inl rfl) u
theorem Is.no {g : Nat} {F : Nat → Prop} (hF : ¬ F g) : ∀ k, F k → ¬ Is g k := fun _ hk he => hF (he ▸ hk)

/-! ### cuts, and bytes as a string -/
/-- Where 'x[lo:..]' begins. -/
def cutA (A : Option Addr) (lo cap sz : Nat) : Option Addr := if cap = lo then A else A.map (·.add (lo * sz))
theorem Rd.cutA {w : World} {F : Nat → Prop} {A : Option Addr} {cs : List Value} (h : Rd w F A cs) (lo cap sz : Nat) (hc : cs.length ≤ cap * sz) : Rd w F (cutA A lo cap sz) (cs.drop (lo * sz)) := by
  have := h.cut (lo * sz) (decide (cap = lo)) (fun h => by rw [decide_eq_true_eq] at h; rw [← h]; exact hc)
  unfold Go.Proofs.Ytnonbimelkagpaa.cutA
  simpa using this
section
variable {P : Program} (w : World) {F : Nat → Prop} {A : Option Addr}
theorem run_cut (t : TypeId) (e : TypeId) (ht : P.underlying t = some (.slice e)) (he : P.elem t = e) (sz : Nat) (hs : ∀ w, (sizeOf e).run P w = .ok sz w) (len cap : Nat) (lo hi : Int) (h0 : 0 ≤ lo) (h1 : lo ≤ hi) (h2 : hi ≤ cap) :
    (Instr.slice t (.slice A len cap) (some (.int .i64 lo)) (some (.int .i64 hi)) none).run P w = .ok (.slice (cutA A lo.toNat cap sz) (hi.toNat - lo.toNat) (cap - lo.toNat)) w := by
  subst he
  rw [run_slice_lh w t A len cap ht .i64 .i64 lo hi h0 h1 h2, hs]
  rfl
theorem run_cutN (t : TypeId) (e : TypeId) (ht : P.underlying t = some (.slice e)) (he : P.elem t = e) (sz : Nat) (hs : ∀ w, (sizeOf e).run P w = .ok sz w) (len cap : Nat) (lo n : Nat) (h2 : lo + n ≤ cap) :
    (Instr.slice t (.slice A len cap) (some (.int .i64 (lo : Int))) (some (.int .i64 ((lo : Int) + (n : Int)))) none).run P w = .ok (.slice (cutA A lo cap sz) n (cap - lo)) w := by
  rw [run_cut w t e ht he sz hs len cap _ _ (by omega) (by omega) (by omega)]
  rw [Int.toNat_natCast, show ((lo : Int) + (n : Int)).toNat - lo = n by omega]
theorem run_cut_lo (t : TypeId) (e : TypeId) (ht : P.underlying t = some (.slice e)) (he : P.elem t = e) (sz : Nat) (hs : ∀ w, (sizeOf e).run P w = .ok sz w) (len cap : Nat) (lo : Int) (h0 : 0 ≤ lo) (h1 : lo ≤ len) :
    (Instr.slice t (.slice A len cap) (some (.int .i64 lo)) none none).run P w = .ok (.slice (cutA A lo.toNat cap sz) (len - lo.toNat) (cap - lo.toNat)) w := by
  subst he
  rw [run_slice_l w t A len cap ht .i64 lo h0 h1, hs]
  rfl
theorem foldl_push_u8 : ∀ (l : List UInt8) (s : ByteArray), (l.map fun b => (b.toNat : Int)).foldl (fun r n => r.push (UInt8.ofNat n.toNat)) s = ⟨s.data ++ l.toArray⟩ := by
  intro l s
  rw [foldl_push_bytes, List.map_map]
  congr 2
  have : (fun n : Int => UInt8.ofNat n.toNat) ∘ (fun b : UInt8 => (b.toNat : Int)) = id := by
    funext b
    simp
  rw [this, List.map_id]
theorem run_conv_str (src dst e : TypeId) (hs : P.underlying src = some (.slice e)) (he : P.underlying e = some (.int .u8)) (hd : P.underlying dst = some .string) (n c : Nat) (l : List UInt8) (hl : l.length = n) (hr : Rd w F A (u8s l)) :
    (convert src dst (.slice A n c)).run P w = .ok (.string ⟨l.toArray⟩) w := by
  rcases A with _ | ad
  · have h0 : l = [] := by
      rcases l with _ | ⟨x, r⟩
      · rfl
      · obtain ⟨_, h, _⟩ := hr (by simp [u8s])
        cases h
    subst h0
    subst hl
    exact run_convert_bytes_nil w src e hs he 0 c dst hd
  · rw [run_convert_bytes_string w src dst e _ _ _ hs he hd]
    have h1 := run_loadCells_list (P := P) w ad (u8s l) (fun j v hj => by
      obtain ⟨ad', he', _, hc⟩ := hr (by have := (List.getElem?_eq_some_iff.1 hj).1; omega)
      injection he' with he'
      subst he'
      exact hc j v hj)
    rw [u8s_length, hl] at h1
    have h2 : u8s l = (l.map fun b => (b.toNat : Int)).map (Value.int .u8) := by rw [List.map_map]; rfl
    rw [run_bytesToString w ad n c (l.map fun b => (b.toNat : Int)) (by rw [h1, h2]), foldl_push_u8, show ByteArray.empty.data = #[] from rfl, Array.empty_append]
end
end Go.Proofs.Ytnonbimelkagpaa
