/- The reference's disk: what it is in memory; At, there, Used, Read. -/
import Derived.Test.YtnonbimelkagpaaDiskG
import Derived.Test.YtnonbimelkagpaaPlanZ
namespace Go.Proofs.Ytnonbimelkagpaa
set_option linter.unusedVariables false
set_option linter.unusedSimpArgs false
open Go.RowKit Go.Lib

def bstr (b : List UInt8) : Value := .string ⟨b.toArray⟩
def ptCells (L : List Pt) : List Value := L.flatMap fun x => [.int .i64 x.n, bstr x.b, .int .i64 (x.s : Int)]
theorem ptCells_cons (x : Pt) (r : List Pt) : ptCells (x :: r) = .int .i64 x.n :: bstr x.b :: .int .i64 (x.s : Int) :: ptCells r := rfl
theorem ptCells_append (a b : List Pt) : ptCells (a ++ b) = ptCells a ++ ptCells b := by simp [ptCells]
theorem ptCells_len : ∀ L : List Pt, (ptCells L).length = L.length * 3
  | [] => rfl
  | x :: r => by rw [ptCells_cons, List.length_cons, List.length_cons, List.length_cons, ptCells_len r, List.length_cons]; omega
theorem ptCells_at : ∀ (L : List Pt) (i : Nat) (x : Pt), L[i]? = some x → (ptCells L)[i * 3]? = some (.int .i64 x.n) ∧ (ptCells L)[i * 3 + 1]? = some (bstr x.b) ∧ (ptCells L)[i * 3 + 2]? = some (.int .i64 (x.s : Int))
  | [], i, x, h => by simp at h
  | y :: r, 0, x, h => by
    simp at h
    subst h
    exact ⟨rfl, rfl, rfl⟩
  | y :: r, i + 1, x, h => by
    have := ptCells_at r i x (by simpa using h)
    rw [ptCells_cons]
    rw [show (i + 1) * 3 = i * 3 + 1 + 1 + 1 by omega, show i * 3 + 1 + 1 + 1 + 1 = (i * 3 + 1) + 1 + 1 + 1 by omega, show i * 3 + 1 + 1 + 1 + 2 = (i * 3 + 2) + 1 + 1 + 1 by omega]
    simpa using this
/-- Block m is the reference's disk of these parts. -/
def Ref (w : World) (m : Nat) (M : Nat → Prop) (room : Int) (down : Bool) (L : List Pt) : Prop :=
  ∃ v, w.heap[m]? = some (.cells #[.int .i64 room, v, .bool down] 40 (0, 0)) ∧ M m ∧ (∀ k, M k → k < w.heap.size) ∧ Own w M 54 3 v L.length (ptCells L)
theorem Ref.kp {w w1 : World} {m : Nat} {M S : Nat → Prop} {room : Int} {down : Bool} {L : List Pt} (h : Ref w m M room down L) (hk : Kp S w w1) (hn : ∀ k, M k → ¬ S k) : Ref w1 m M room down L := by
  obtain ⟨v, h1, h2, h3, h4⟩ := h
  exact ⟨v, hk.heap h1 (hn _ h2), h2, fun k hm => Nat.lt_of_lt_of_le (h3 k hm) hk.size, h4.kp hk hn⟩
theorem Ref.keep {w w1 : World} {m : Nat} {M : Nat → Prop} {room : Int} {down : Bool} {L : List Pt} (h : Ref w m M room down L) (hk : Kp No w w1) : Ref w1 m M room down L := h.kp hk (fun _ _ => id)
theorem Ref.mono {w : World} {m : Nat} {M M' : Nat → Prop} {room : Int} {down : Bool} {L : List Pt} (h : Ref w m M room down L) (hm : ∀ k, M k → M' k) (hlt : ∀ k, M' k → k < w.heap.size) : Ref w m M' room down L := by
  obtain ⟨v, h1, h2, h3, h4⟩ := h
  exact ⟨v, h1, hm _ h2, hlt, h4.mono fun k _ hk => hm k hk⟩
theorem Ref.lt {w : World} {m : Nat} {M : Nat → Prop} {room : Int} {down : Bool} {L : List Pt} (h : Ref w m M room down L) : ∀ k, M k → k < w.heap.size := by
  obtain ⟨v, h1, h2, h3, h4⟩ := h
  exact h3
/-- The row, seen. -/
theorem pts_see {w : World} {F : Nat → Prop} {v : Value} {L : List Pt} (h : Own w F 54 3 v L.length (ptCells L)) : ∃ A c, v = .slice A L.length c ∧ L.length ≤ c ∧ c ≤ maxLen ∧ (L ≠ [] → ∃ g, A = some ⟨g, 0, none⟩ ∧ F g) ∧
    ∀ g, A = some ⟨g, 0, none⟩ → ∀ (i : Nat) (x : Pt), L[i]? = some x → w.cell? ⟨g, i * 3, none⟩ = some (.int .i64 x.n) ∧ w.cell? ⟨g, i * 3 + 1, none⟩ = some (bstr x.b) ∧ w.cell? ⟨g, i * 3 + 2, none⟩ = some (.int .i64 (x.s : Int)) ∧ ∀ q, w.frozen? ⟨g, q, none⟩ = false := by
  rcases h.1.2 with ⟨rfl, h0⟩ | ⟨g, cap, cur, rfl, hb, hg, hc, hm, hs, hx⟩
  · have : L = [] := List.eq_nil_of_length_eq_zero h0
    subst this
    exact ⟨none, 0, rfl, Nat.le_refl _, by unfold maxLen; omega, (fun h => absurd rfl h), (fun g e => by cases e)⟩
  · refine ⟨some ⟨g, 0, none⟩, cap, rfl, hc, hm, (fun _ => ⟨g, rfl, h.2 g rfl⟩), fun g' e i x hi => ?_⟩
    injection e with e
    injection e with e
    subst e
    obtain ⟨p1, p2, p3⟩ := ptCells_at L i x hi
    have h1 := h.1.cells (g := g) rfl _ _ p1
    have h2 := h.1.cells (g := g) rfl _ _ p2
    have h3 := h.1.cells (g := g) rfl _ _ p3
    rw [add_plain', Nat.zero_add] at h1 h2 h3
    exact ⟨h1, h2, h3, fun q => blk_frozen hg q⟩

/-- Where a part stands, from i on; -1: nowhere. -/
def rIdx (n : Int) : List Pt → Nat → Int
  | [], _ => -1
  | x :: r, i => if x.n = n then (i : Int) else rIdx n r (i + 1)
theorem rIdx_find (n : Int) : ∀ (L : List Pt) (i : Nat), (pFind n L = none ∧ rIdx n L i = -1) ∨ ∃ q x, pFind n L = some x ∧ L[q]? = some x ∧ rIdx n L i = ((i + q : Nat) : Int)
  | [], i => .inl ⟨rfl, rfl⟩
  | x :: r, i => by
    unfold rIdx pFind
    by_cases h : x.n = n
    · right
      refine ⟨0, x, ?_, rfl, by rw [if_pos h]; simp⟩
      rw [List.find?_cons_of_pos (by simpa using h)]
    · rw [if_neg h, List.find?_cons_of_neg (by simpa using h)]
      rcases rIdx_find n r (i + 1) with ⟨h1, h2⟩ | ⟨q, y, h1, h2, h3⟩
      · exact .inl ⟨h1, h2⟩
      · exact .inr ⟨q + 1, y, h1, by simpa using h2, by rw [h3]; congr 1; omega⟩
set_option maxHeartbeats 1000000 in
set_option maxRecDepth 100000 in
theorem refAt_any (w : World) (m : Nat) (M : Nat → Prop) (room : Int) (down : Bool) (L : List Pt) (h : Ref w m M room down L) (hL : L.length ≤ 1000000000) (n : Int) :
    Calls Try.prog 35 #[.pointer (some ⟨m, 0, none⟩), .int .i64 n] w fun e w' => e = .returned (.int .i64 (rIdx n L 0)) ∧ w' = w := by
  obtain ⟨v, h1, _, _, h4⟩ := h
  obtain ⟨A, c, rfl, _, _, i3, i4⟩ := pts_see h4
  obtain ⟨_, c1, _, _⟩ := blk3 h1
  have I3 := As.mk i3
  have I4 := As.mk i4
  obtain ⟨R, hR⟩ : ∃ R, R = rIdx n L 0 := ⟨_, rfl⟩
  rw [← hR]
  have HR := As.mk hR
  obtain ⟨nL, hn⟩ : ∃ z, z = L.length := ⟨_, rfl⟩
  rw [← hn] at c1 hL
  have HN := As.mk hn
  clear h1 h4 i3 i4 hR hn
  go_enter Try.func35, Try.ntmps35
  go_wp2
  go_loop [5] (fun vi => ∃ i : Nat, vi = .int .i64 (i : Int) ∧ i ≤ nL ∧ As (rIdx n (L.drop i) i = R)) (fun vi => nL - (intOf vi).toNat)
  case atStart => exact ⟨0, rfl, Nat.zero_le _, ⟨HR.out.symm⟩⟩
  case round =>
    obtain ⟨i, rfl, hi, J⟩ := hrel
    by_cases hlt : i < nL
    · have hil : i < L.length := by have := HN.out; omega
      obtain ⟨g, rfl, _⟩ := I3.out (by intro e; rw [e] at hil; simp at hil)
      obtain ⟨x, hx⟩ : ∃ x, L[i]? = some x := ⟨_, List.getElem?_eq_getElem hil⟩
      have hcell := (I4.out g rfl i x hx).1
      have hd : L.drop i = x :: L.drop (i + 1) := by
        obtain ⟨_, rfl⟩ := List.getElem?_eq_some_iff.1 hx
        exact List.drop_eq_getElem_cons hil
      obtain ⟨xn, hxn⟩ : ∃ z, z = x.n := ⟨_, rfl⟩
      rw [← hxn] at hcell
      by_cases hv : xn = n
      · have hb : (xn == n) = true := by rw [beq_iff_eq]; exact hv
        have E1 := As.mk (show R = (i : Int) by rw [← J.out, hd, rIdx, ← hxn, if_pos hv])
        clear hv hd hx hxn
        go_wp2
        go_ret
        exact ⟨by rw [E1.out]; rfl, rfl⟩
      · have hb : (xn == n) = false := by rw [beq_eq_false_iff_ne]; exact hv
        have E1 := As.mk (show rIdx n (L.drop (i + 1)) (i + 1) = R by rw [← J.out, hd, rIdx, ← hxn, if_neg hv])
        clear hv hd hx hxn
        go_wp2
        go_round
        case rel => exact ⟨i + 1, by go_num, by omega, E1⟩
        case measure => simp [intOf]; omega
    · have hge : ¬ i < nL := hlt
      have E1 := As.mk (show R = -1 by rw [← J.out, List.drop_of_length_le (by have := HN.out; omega)]; rfl)
      go_wp2
      go_ret
      exact ⟨by rw [E1.out]; rfl, rfl⟩
end Go.Proofs.Ytnonbimelkagpaa
