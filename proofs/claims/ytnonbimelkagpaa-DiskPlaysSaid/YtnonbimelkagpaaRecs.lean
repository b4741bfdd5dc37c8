/- Slices of slices of bytes: what they read as; one more. -/
import Derived.Test.YtnonbimelkagpaaProg
import Derived.Test.YtnonbimelkagpaaKit
namespace Go.Proofs.Ytnonbimelkagpaa
set_option linter.unusedVariables false
set_option linter.unusedSimpArgs false
open Go.RowKit Go.Lib

/-- Block k is a row of bytes. -/
def U8 (w : World) (k : Nat) : Prop := ∃ cur fr, w.heap[k]? = some (.cells cur 5 fr)
theorem U8.kp {S : Nat → Prop} {w w1 : World} {k : Nat} (h : U8 w k) (hk : Kp S w w1) (hn : ¬ S k) : U8 w1 k := by
  obtain ⟨cur, fr, h⟩ := h
  exact ⟨cur, fr, hk.heap h hn⟩
theorem U8.ne {w : World} {k g : Nat} (h : U8 w k) {cs : Array Value} {t : TypeId} {fr : Nat × Nat} (hg : w.heap[g]? = some (.cells cs t fr)) (ht : t ≠ 5) : k ≠ g := by
  rintro rfl
  obtain ⟨cur, fr', h⟩ := h
  rw [hg] at h
  injection h with h
  injection h with h1 h2
  exact ht h2
def Rd8 (w : World) (F : Nat → Prop) (A : Option Addr) (l : List UInt8) : Prop := Rd w (fun k => F k ∧ U8 w k) A (u8s l)
theorem Rd8.kp {F S : Nat → Prop} {w w1 : World} {A : Option Addr} {l : List UInt8} (h : Rd8 w F A l) (hk : Kp S w w1) (hn : ∀ k, F k → U8 w k → ¬ S k) : Rd8 w1 F A l := by
  have h1 := Rd.kp h hk (fun k hf => hn k hf.1 hf.2)
  intro hp
  obtain ⟨ad, e, hf, hc⟩ := h1 hp
  exact ⟨ad, e, ⟨hf.1, hf.2.kp hk (hn _ hf.1 hf.2)⟩, hc⟩
theorem Rd8.keep {F : Nat → Prop} {w w1 : World} {A : Option Addr} {l : List UInt8} (h : Rd8 w F A l) (hk : Kp No w w1) : Rd8 w1 F A l := h.kp hk (fun _ _ _ => id)
theorem Rd8.mono {F G : Nat → Prop} {w : World} {A : Option Addr} {l : List UInt8} (h : Rd8 w F A l) (hf : ∀ k, k < w.heap.size → F k → G k) : Rd8 w G A l := by
  intro hp
  obtain ⟨ad, e, ⟨h1, h2⟩, hc⟩ := h hp
  refine ⟨ad, e, ⟨hf _ ?_ h1, h2⟩, hc⟩
  obtain ⟨cur, fr, h⟩ := h2
  exact blk_lt h
theorem Rd8.rd {F : Nat → Prop} {w : World} {A : Option Addr} {l : List UInt8} (h : Rd8 w F A l) : Rd w F A (u8s l) := Rd.mono h (fun _ hk => hk.1)
theorem Own.rd8 {w : World} {F : Nat → Prop} {n c : Nat} {A : Option Addr} {l : List UInt8} (h : Own w F 5 1 (.slice A n c) n (u8s l)) : Rd8 w F A l := by
  intro hp
  rcases h.1.2 with ⟨e, h0⟩ | ⟨g, cap, cur, e, _, hg, _⟩
  · have := h.len
    omega
  · injection e with e1 e2 e3
    subst e1
    exact ⟨_, rfl, ⟨h.2 g rfl, ⟨cur, _, hg⟩⟩, h.1.cells (g := g) rfl⟩
theorem Own.none_cap {w : World} {F : Nat → Prop} {n c E sz : Nat} {A : Option Addr} {cs : List Value} (h : Own w F E sz (.slice A n c) n cs) : A = none → c = 0 := by
  rintro rfl
  rcases h.1.2 with ⟨e, _⟩ | ⟨g, cap, cur, e, _⟩
  · injection e
  · injection e with e; cases e
theorem Rd8.bytes (w : World) (s : ByteArray) : Rd8 (bytesWorld w 5 s) (fun k => k = w.heap.size) (some ⟨w.heap.size, 0, none⟩) s.data.toList := by
  intro hp
  obtain ⟨ad, e, hf, hc⟩ := Rd.bytes w 5 s hp
  injection e with e
  subst e
  exact ⟨_, rfl, ⟨rfl, ⟨_, _, bytesWorld_at_new w 5 s⟩⟩, hc⟩

theorem own_u8 {w : World} {F : Nat → Prop} {E sz n k : Nat} {v : Value} {cs : List Value} (h : Own w F E sz v n cs) (hE : E ≠ 5) (hu : U8 w k) : v.ownBlock ≠ some k := by
  intro he
  rcases h.1.2 with ⟨rfl, _⟩ | ⟨g, cap, cur, rfl, _, hg, _⟩
  · simp [Value.ownBlock] at he
  · simp [Value.ownBlock] at he
    subst he
    exact hu.ne hg hE rfl

/-- One record. -/
def Rec1 (w : World) (F : Nat → Prop) (v : Value) (r : List UInt8) : Prop := ∃ A c, v = .slice A r.length c ∧ (A = none → c = 0) ∧ Rd8 w F A r
theorem Rec1.kp {F S : Nat → Prop} {w w1 : World} {v : Value} {r : List UInt8} (h : Rec1 w F v r) (hk : Kp S w w1) (hn : ∀ k, F k → U8 w k → ¬ S k) : Rec1 w1 F v r := by
  obtain ⟨A, c, h1, h2, h3⟩ := h
  exact ⟨A, c, h1, h2, h3.kp hk hn⟩
theorem Rec1.mono {F G : Nat → Prop} {w : World} {v : Value} {r : List UInt8} (h : Rec1 w F v r) (hf : ∀ k, k < w.heap.size → F k → G k) : Rec1 w G v r := by
  obtain ⟨A, c, h1, h2, h3⟩ := h
  exact ⟨A, c, h1, h2, h3.mono hf⟩
theorem Rec1.one {F : Nat → Prop} {w : World} {v : Value} {r : List UInt8} (h : Rec1 w F v r) : v.oneCell' = true := by
  obtain ⟨A, c, rfl, _⟩ := h
  rfl
/-- A row of records. -/
def Recs (w : World) (F : Nat → Prop) (v : Value) (rs : List (List UInt8)) : Prop :=
  ∃ cs : List Value, Own w F 22 1 v rs.length cs ∧ ∀ (i : Nat) (r : List UInt8), rs[i]? = some r → ∃ u, cs[i]? = some u ∧ Rec1 w F u r
theorem Recs.nil (w : World) (F : Nat → Prop) : Recs w F (.slice none 0 0) [] := ⟨[], Own.nil _ _ _ _, fun i r h => by simp at h⟩
theorem Recs.kp {F S : Nat → Prop} {w w1 : World} {v : Value} {rs : List (List UInt8)} (h : Recs w F v rs) (hk : Kp S w w1) (hn : ∀ k, F k → ¬ S k) : Recs w1 F v rs := by
  obtain ⟨cs, h1, h2⟩ := h
  refine ⟨cs, h1.kp hk hn, fun i r hi => ?_⟩
  obtain ⟨u, h3, h4⟩ := h2 i r hi
  exact ⟨u, h3, h4.kp hk (fun k hf _ => hn k hf)⟩
theorem Recs.keep {F : Nat → Prop} {w w1 : World} {v : Value} {rs : List (List UInt8)} (h : Recs w F v rs) (hk : Kp No w w1) : Recs w1 F v rs := h.kp hk (fun _ _ => id)
theorem Recs.mono {F G : Nat → Prop} {w : World} {v : Value} {rs : List (List UInt8)} (h : Recs w F v rs) (hf : ∀ k, k < w.heap.size → F k → G k) : Recs w G v rs := by
  obtain ⟨cs, h1, h2⟩ := h
  refine ⟨cs, h1.mono hf, fun i r hi => ?_⟩
  obtain ⟨u, h3, h4⟩ := h2 i r hi
  exact ⟨u, h3, h4.mono hf⟩
theorem Recs.len {F : Nat → Prop} {w : World} {v : Value} {rs : List (List UInt8)} (h : Recs w F v rs) : ∃ A c, v = .slice A rs.length c ∧ rs.length ≤ c ∧ c ≤ maxLen := by
  obtain ⟨cs, h1, h2⟩ := h
  obtain ⟨A, c, e, h3, h4, _⟩ := h1.read
  exact ⟨A, c, e, h3, h4⟩
theorem infoRecs : (Try.prog.info? 22).map (fun i => (i.zero, i.size, i.bytes)) = some (some (.slice none 0 0), 1, 24) := by kernel_rfl
/-- One more, written: its row may have turned; the records' blocks haven't. -/
theorem Recs.snoc {F G S : Nat → Prop} {w w1 : World} {v v1 : Value} {rs : List (List UInt8)} {cs : List Value} (hown : Own w F 22 1 v rs.length cs) (h : ∀ (i : Nat) (r : List UInt8), rs[i]? = some r → ∃ u, cs[i]? = some u ∧ Rec1 w F u r)
    {u : Value} {r : List UInt8} (hr : Rec1 w F u r) (h1 : Own w1 G 22 1 v1 (rs.length + 1) (cs ++ [u])) (hk : Kp S w w1) (hn : ∀ k, F k → U8 w k → ¬ S k) (hG : ∀ k, F k → G k) : Recs w1 G v1 (rs ++ [r]) := by
  have hl : cs.length = rs.length := by simpa using hown.len
  refine ⟨cs ++ [u], by simpa using h1, fun i q hi => ?_⟩
  rcases Nat.lt_or_ge i rs.length with hlt | hge
  · rw [List.getElem?_append_left hlt] at hi
    obtain ⟨u', h3, h4⟩ := h i q hi
    exact ⟨u', by rw [List.getElem?_append_left (by omega)]; exact h3, (h4.kp hk hn).mono (fun k _ hf => hG k hf)⟩
  · have hil : i < (rs ++ [r]).length := (List.getElem?_eq_some_iff.1 hi).1
    have : i = rs.length := by simp at hil; omega
    subst this
    rw [List.getElem?_append_right (Nat.le_refl _), Nat.sub_self] at hi
    have e : r = q := by simpa using hi
    subst e
    exact ⟨u, by rw [← hl, List.getElem?_append_right (Nat.le_refl _), Nat.sub_self]; rfl, (hr.kp hk hn).mono (fun k _ hf => hG k hf)⟩
end Go.Proofs.Ytnonbimelkagpaa
