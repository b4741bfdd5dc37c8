/- The reference's disk: there, Used, Read; a part turned in place. -/
import Derived.Test.YtnonbimelkagpaaRefA
namespace Go.Proofs.Ytnonbimelkagpaa
set_option linter.unusedVariables false
set_option linter.unusedSimpArgs false
open Go.RowKit Go.Lib

theorem there_bad (w : World) (m : Nat) (M : Nat → Prop) (room : Int) (down : Bool) (L : List Pt) (h : Ref w m M room down L) (hL : L.length ≤ 1000000000) (n : Int) (c : Nat) (hc : c = partCode down L n) (h0 : c ≠ 0) :
    Calls Try.prog 36 #[.pointer (some ⟨m, 0, none⟩), .int .i64 n] w fun e w' => e = .returned (.tuple #[.int .i64 (-1), .int .i64 (c : Int)]) ∧ w' = w := by
  have AT := As.mk (refAt_any w m M room down L h hL n)
  obtain ⟨v, h1, _, _, h4⟩ := h
  obtain ⟨_, _, c2, _⟩ := blk3 h1
  cases down with
  | true =>
    have : c = 10 := by rw [hc]; rfl
    subst this
    clear h1 h4 hc h0
    go_enter Try.func36, Try.ntmps36
    go_wp2
    go_ret2
    exact ⟨rfl, rfl⟩
  | false =>
    have hnone : rIdx n L 0 = -1 ∧ c = 4 := by
      rcases rIdx_find n L 0 with ⟨e1, e2⟩ | ⟨q, x, e1, _, _⟩
      · exact ⟨e2, by rw [hc]; unfold partCode; rw [e1]; rfl⟩
      · exfalso; apply h0; rw [hc]; unfold partCode; rw [e1]; rfl
    obtain ⟨e1, rfl⟩ := hnone
    rw [e1] at AT
    clear h1 h4 hc h0 e1
    go_enter Try.func36, Try.ntmps36
    go_wp2_with (go_at_call 35; go_must (refine AT.out.mono ?_; rintro e w1 ⟨rfl, rfl⟩))
    go_ret2
    exact ⟨rfl, rfl⟩
theorem there_ok (w : World) (m : Nat) (M : Nat → Prop) (room : Int) (L : List Pt) (h : Ref w m M room false L) (hL : L.length ≤ 1000000000) (n : Int) (q : Nat) (hq : rIdx n L 0 = (q : Int)) :
    Calls Try.prog 36 #[.pointer (some ⟨m, 0, none⟩), .int .i64 n] w fun e w' => e = .returned (.tuple #[.int .i64 (q : Int), .int .i64 0]) ∧ w' = w := by
  have AT := As.mk (refAt_any w m M room false L h hL n)
  rw [hq] at AT
  obtain ⟨v, h1, _, _, h4⟩ := h
  obtain ⟨_, _, c2, _⟩ := blk3 h1
  have hq0 : ¬ (q : Int) < 0 := by omega
  clear h1 h4 hq
  go_enter Try.func36, Try.ntmps36
  go_wp2_with (go_at_call 35; go_must (refine AT.out.mono ?_; rintro e w1 ⟨rfl, rfl⟩))
  go_ret2
  exact ⟨rfl, rfl⟩
/-- A part that is there: where. -/
theorem partCode_at {L : List Pt} {n : Int} {down : Bool} (h : partCode down L n = 0) : down = false ∧ ∃ (q : Nat) (x : Pt), pFind n L = some x ∧ L[q]? = some x ∧ x.n = n ∧ rIdx n L 0 = (q : Int) := by
  unfold partCode at h
  cases down with
  | true => simp at h
  | false =>
    refine ⟨rfl, ?_⟩
    rcases rIdx_find n L 0 with ⟨e1, _⟩ | ⟨q, x, e1, e2, e3⟩
    · rw [e1] at h; simp at h
    · refine ⟨q, x, e1, e2, ?_, by simpa using e3⟩
      have := List.find?_some e1
      simpa using this
theorem split_at {L : List Pt} {q : Nat} {x : Pt} (h : L[q]? = some x) : L = L.take q ++ x :: L.drop (q + 1) := by
  obtain ⟨hl, rfl⟩ := List.getElem?_eq_some_iff.1 h
  rw [← List.drop_eq_getElem_cons hl, List.take_append_drop]
theorem pSet_at {L : List Pt} (hs : PSorted L) {q : Nat} {x : Pt} (h : L[q]? = some x) (f : Pt → Pt) : pSet x.n f L = L.set q (f x) := by
  have e := split_at h
  have hl : q < L.length := (List.getElem?_eq_some_iff.1 h).1
  have hq : (L.take q).length = q := by rw [List.length_take]; omega
  conv => lhs; rw [e]
  conv => rhs; rw [e]
  rw [pSet_mid f (by rw [← e]; exact hs), List.set_append_right _ _ (by omega), hq, Nat.sub_self, List.set_cons_zero]

/-- A cell of a row of one's own, turned. -/
theorem Own.set {w : World} {F : Nat → Prop} {E sz n c g q : Nat} {cs : List Value} (h : Own w F E sz (.slice (some ⟨g, 0, none⟩) n c) n cs) (hq : q < n * sz) (u : Value) : Own (w.setCell ⟨g, q, none⟩ u) F E sz (.slice (some ⟨g, 0, none⟩) n c) n (cs.set q u) := by
  refine ⟨⟨by rw [List.length_set]; exact h.1.1, ?_⟩, h.2⟩
  rcases h.1.2 with ⟨he, h0⟩ | ⟨g', cap, cur, he, hb, hh, hc, hcm, hs, hx⟩
  · injection he with e1; cases e1
  · injection he with e1 e2 e3
    injection e1 with e1
    injection e1 with e1
    subst e1
    subst e3
    refine .inr ⟨g, c, cur.setIfInBounds q u, rfl, hb, blk_set hh q u, hc, hcm, by rw [Array.size_setIfInBounds]; exact hs, ?_⟩
    rw [Array.toList_setIfInBounds, List.take_set, hx]
theorem ptCells_set : ∀ (L : List Pt) (q : Nat) (x : Pt), L[q]? = some x → (∀ b, (ptCells L).set (q * 3 + 1) (bstr b) = ptCells (L.set q ⟨x.n, b, x.s⟩)) ∧ (∀ s : Nat, (ptCells L).set (q * 3 + 2) (.int .i64 (s : Int)) = ptCells (L.set q ⟨x.n, x.b, s⟩))
  | [], q, x, h => by simp at h
  | y :: r, 0, x, h => by
    simp at h
    subst h
    exact ⟨fun b => rfl, fun s => rfl⟩
  | y :: r, q + 1, x, h => by
    obtain ⟨h1, h2⟩ := ptCells_set r q x (by simpa using h)
    refine ⟨fun b => ?_, fun s => ?_⟩
    · rw [List.set_cons_succ, ptCells_cons, ptCells_cons, ← h1 b, show (q + 1) * 3 + 1 = (q * 3 + 1) + 1 + 1 + 1 by omega]
      rfl
    · rw [List.set_cons_succ, ptCells_cons, ptCells_cons, ← h2 s, show (q + 1) * 3 + 2 = (q * 3 + 2) + 1 + 1 + 1 by omega]
      rfl

/-- One cell of the row turned. -/
theorem Ref.turn {w : World} {m g cc p : Nat} {M : Nat → Prop} {room : Int} {down : Bool} {L : List Pt} (h1 : w.heap[m]? = some (.cells #[.int .i64 room, .slice (some ⟨g, 0, none⟩) L.length cc, .bool down] 40 (0, 0))) (h2 : M m) (h3 : ∀ k, M k → k < w.heap.size)
    (h4 : Own w M 54 3 (.slice (some ⟨g, 0, none⟩) L.length cc) L.length (ptCells L)) (hp : p < L.length * 3) (u : Value) (L2 : List Pt) (he : (ptCells L).set p u = ptCells L2) (hl : L2.length = L.length) :
    (∃ v, (w.setCell ⟨g, p, none⟩ u).heap[m]? = some (.cells #[.int .i64 room, v, .bool down] 40 (0, 0)) ∧ v = .slice (some ⟨g, 0, none⟩) L2.length cc ∧ M m ∧ (∀ k, M k → k < (w.setCell ⟨g, p, none⟩ u).heap.size) ∧ Own (w.setCell ⟨g, p, none⟩ u) M 54 3 v L2.length (ptCells L2)) ∧ Kp M w (w.setCell ⟨g, p, none⟩ u) := by
  have hmg : m ≠ g := fun e => own_ne h4 h1 (by decide) (by rw [e]; rfl)
  have hg : M g := h4.2 g rfl
  have hk : Kp M w (w.setCell ⟨g, p, none⟩ u) := (Kp.refl _ w).setCell (p := ⟨g, p, none⟩) (.inl hg) u
  refine ⟨⟨_, blk_far h1 hmg u, by rw [hl], h2, fun k hk' => Nat.lt_of_lt_of_le (h3 k hk') hk.size, ?_⟩, hk⟩
  rw [hl, ← he]
  exact h4.set hp u
theorem Ref.of_turn {w : World} {m g cc : Nat} {M : Nat → Prop} {room : Int} {down : Bool} {L : List Pt} (h : ∃ v, w.heap[m]? = some (.cells #[.int .i64 room, v, .bool down] 40 (0, 0)) ∧ v = .slice (some ⟨g, 0, none⟩) L.length cc ∧ M m ∧ (∀ k, M k → k < w.heap.size) ∧ Own w M 54 3 v L.length (ptCells L)) : Ref w m M room down L := by
  obtain ⟨v, a, _, b, c, d⟩ := h
  exact ⟨v, a, b, c, d⟩
theorem used_drop {L : List Pt} {i : Nat} {x : Pt} (h : L[i]? = some x) : pUsed (L.drop i) = x.b.length + pUsed (L.drop (i + 1)) := by
  obtain ⟨hl, rfl⟩ := List.getElem?_eq_some_iff.1 h
  unfold pUsed
  rw [List.drop_eq_getElem_cons hl, List.map_cons, List.sum_cons]
set_option maxHeartbeats 1000000 in
set_option maxRecDepth 100000 in
theorem refUsed_any (w : World) (m : Nat) (M : Nat → Prop) (room : Int) (down : Bool) (L : List Pt) (h : Ref w m M room down L) (hL : L.length ≤ 1000000000) (hu : pUsed L ≤ 1000000000) :
    Calls Try.prog 24 #[.pointer (some ⟨m, 0, none⟩)] w fun e w' => e = .returned (.int .i64 (pUsed L : Int)) ∧ w' = w := by
  obtain ⟨v, h1, _, _, h4⟩ := h
  obtain ⟨A, c, rfl, _, _, i3, i4⟩ := pts_see h4
  obtain ⟨_, c1, _, _⟩ := blk3 h1
  have I3 := As.mk i3
  have I4 := As.mk i4
  obtain ⟨R, hR⟩ : ∃ R, R = pUsed L := ⟨_, rfl⟩
  rw [← hR]
  rw [← hR] at hu
  have HR := As.mk hR
  obtain ⟨nL, hn⟩ : ∃ z, z = L.length := ⟨_, rfl⟩
  rw [← hn] at c1 hL
  have HN := As.mk hn
  clear h1 h4 i3 i4 hR hn
  go_enter Try.func24, Try.ntmps24
  go_wp2
  go_loop [3, 4] (fun vn vi => ∃ i u : Nat, vi = .int .i64 (i : Int) ∧ vn = .int .i64 (u : Int) ∧ i ≤ nL ∧ u ≤ R ∧ As (u + pUsed (L.drop i) = R)) (fun _ vi => nL - (intOf vi).toNat)
  case atStart => exact ⟨0, 0, rfl, rfl, Nat.zero_le _, Nat.zero_le _, ⟨by rw [HR.out]; simp⟩⟩
  case round =>
    obtain ⟨i, u, rfl, rfl, hi, hu2, J⟩ := hrel
    by_cases hlt : i < nL
    · have hil : i < L.length := by have := HN.out; omega
      obtain ⟨g, rfl, _⟩ := I3.out (by intro e; rw [e] at hil; simp at hil)
      obtain ⟨x, hx⟩ : ∃ x, L[i]? = some x := ⟨_, List.getElem?_eq_getElem hil⟩
      have hcell := (I4.out g rfl i x hx).2.1
      have hd := used_drop hx
      obtain ⟨S, hS⟩ : ∃ S : ByteArray, S = ⟨x.b.toArray⟩ := ⟨_, rfl⟩
      unfold bstr at hcell
      rw [← hS] at hcell
      have hSz : S.size = x.b.length := by rw [hS]; rfl
      obtain ⟨l, hl⟩ : ∃ l, l = S.size := ⟨_, rfl⟩
      have E1 := As.mk (show (u + l) + pUsed (L.drop (i + 1)) = R by have := J.out; omega)
      have hul : u + S.size ≤ R := by have := E1.out; omega
      rw [hl] at E1
      clear hd hx hS hSz hl J
      go_wp2
      go_round
      case rel => exact ⟨i + 1, u + S.size, by go_num, by go_num, by omega, by omega, E1⟩
      case measure => simp [intOf]; omega
    · have hge : ¬ i < nL := hlt
      have E1 := As.mk (show u = R by have := J.out; rw [List.drop_of_length_le (by have := HN.out; omega)] at this; simpa [pUsed] using this)
      go_wp2
      go_ret
      exact ⟨by rw [E1.out]; rfl, rfl⟩

/-- Read. -/
theorem refRead_bad (w : World) (m : Nat) (M : Nat → Prop) (room : Int) (down : Bool) (L : List Pt) (h : Ref w m M room down L) (hL : L.length ≤ 1000000000) (n : Int) (c : Nat) (hc : c = partCode down L n) (h0 : c ≠ 0) :
    Calls Try.prog 20 #[.pointer (some ⟨m, 0, none⟩), .int .i64 n] w fun e w' => e = .returned (.tuple #[.string ⟨#[]⟩, .int .i64 (c : Int)]) ∧ w' = w := by
  have TH := As.mk (there_bad w m M room down L h hL n c hc h0)
  have hb : ((c : Int) != 0) = true := by rw [bne_iff_ne]; omega
  clear h hc h0
  go_enter Try.func20, Try.ntmps20
  go_wp2_with (go_at_call 36; go_must (refine TH.out.mono ?_; rintro e w1 ⟨rfl, rfl⟩))
  go_ret2
  exact ⟨rfl, rfl⟩
theorem refRead_ok (w : World) (m : Nat) (M : Nat → Prop) (room : Int) (L : List Pt) (h : Ref w m M room false L) (hL : L.length ≤ 1000000000) (n : Int) (q : Nat) (x : Pt) (hq : rIdx n L 0 = (q : Int)) (hx : L[q]? = some x) :
    Calls Try.prog 20 #[.pointer (some ⟨m, 0, none⟩), .int .i64 n] w fun e w' => e = .returned (.tuple #[.string ⟨x.b.toArray⟩, .int .i64 0]) ∧ w' = w := by
  have TH := As.mk (there_ok w m M room L h hL n q hq)
  obtain ⟨v, h1, _, _, h4⟩ := h
  obtain ⟨A, c, rfl, _, _, i3, i4⟩ := pts_see h4
  obtain ⟨_, c1, _, _⟩ := blk3 h1
  have hql : q < L.length := (List.getElem?_eq_some_iff.1 hx).1
  obtain ⟨g, rfl, _⟩ := i3 (by intro e; rw [e] at hql; simp at hql)
  have hcell := (i4 g rfl q x hx).2.1
  unfold bstr at hcell
  obtain ⟨S, hS⟩ : ∃ S : ByteArray, S = ⟨x.b.toArray⟩ := ⟨_, rfl⟩
  rw [← hS] at hcell ⊢
  obtain ⟨nL, hn⟩ : ∃ z, z = L.length := ⟨_, rfl⟩
  rw [← hn] at c1 hql hL
  have hq0 : (0 : Int) ≤ (q : Int) := by omega
  have hq1 : (q : Int) < (nL : Int) := by omega
  clear h1 h4 i3 i4 hq hx hS hn
  go_enter Try.func20, Try.ntmps20
  go_wp2_with (go_at_call 36; go_must (refine TH.out.mono ?_; rintro e w1 ⟨rfl, rfl⟩))
  go_ret2
  exact ⟨rfl, rfl⟩
end Go.Proofs.Ytnonbimelkagpaa
