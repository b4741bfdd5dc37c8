/- journal: what a journal is in memory; First, Next. -/
import Derived.Test.YtnonbimelkagpaaJourA
import Derived.Test.YtnonbimelkagpaaDiskG
namespace Go.Proofs.Ytnonbimelkagpaa
set_option linter.unusedVariables false
set_option linter.unusedSimpArgs false
open Go.RowKit Go.Lib

def ints (ps : List Int) : List Value := ps.map (Value.int .i64)
/-- Numbers that are far from the ends. -/
def Mild (ps : List Int) : Prop := ps.length ≤ 1000000 ∧ ∀ p ∈ ps, -1000000000000 ≤ p ∧ p ≤ 1000000000000
def jFirst (ps : List Int) : Int := ps.headD 0
def jNext (ps : List Int) (rs : List (List UInt8)) : Int := jFirst ps + rs.length
theorem Mild.first {ps : List Int} (h : Mild ps) : -1000000000000 ≤ jFirst ps ∧ jFirst ps ≤ 1000000000000 := by
  unfold jFirst
  cases ps with
  | nil => simp
  | cons p r => exact h.2 p (List.mem_cons.2 (.inl rfl))
/-- Block j is a journal of these parts and records, over the disk d. -/
def Jr (w : World) (j : Nat) (J : Nat → Prop) (d : Nat) (D : Nat → Prop) (room : Int) (down : Bool) (L : List Pt) (many : Int) (ps : List Int) (rs : List (List UInt8)) : Prop :=
  ∃ vp vl, w.heap[j]? = some (.cells #[.pointer (some ⟨d, 0, none⟩), .int .i64 many, vp, vl] 80 (0, 0)) ∧ J j ∧ (∀ k, J k → k < w.heap.size) ∧ Own w J 3 1 vp ps.length (ints ps) ∧ Recs w J vl rs ∧ Disk w d D room down L ∧ (∀ k, D k → ¬ J k)

/-- A row of numbers, seen. -/
theorem ints_see {w : World} {F : Nat → Prop} {v : Value} {ps : List Int} (h : Own w F 3 1 v ps.length (ints ps)) : ∃ A c, v = .slice A ps.length c ∧ ps.length ≤ c ∧ c ≤ maxLen ∧ (ps ≠ [] → ∃ g, A = some ⟨g, 0, none⟩ ∧ F g) ∧ ∀ g, A = some ⟨g, 0, none⟩ → ∀ (i : Nat) (p : Int), ps[i]? = some p → w.cell? ⟨g, i, none⟩ = some (.int .i64 p) := by
  rcases h.1.2 with ⟨rfl, h0⟩ | ⟨g, cap, cur, rfl, hb, hg, hc, hm, hs, hx⟩
  · have : ps = [] := List.eq_nil_of_length_eq_zero h0
    subst this
    exact ⟨none, 0, rfl, Nat.le_refl _, by unfold maxLen; omega, (fun h => absurd rfl h), (fun g e => by cases e)⟩
  · refine ⟨some ⟨g, 0, none⟩, cap, rfl, hc, hm, (fun _ => ⟨g, rfl, h.2 g rfl⟩), fun g' e i p hi => ?_⟩
    injection e with e
    injection e with e
    subst e
    have h1 := h.1.cells (g := g) rfl i (.int .i64 p) (by rw [ints, List.getElem?_map, hi]; rfl)
    simpa [add_plain'] using h1

theorem first_any (w : World) (j : Nat) (F : Nat → Prop) (vp : Value) (ps : List Int) (hc : w.cell? ⟨j, 2, none⟩ = some vp) (h : Own w F 3 1 vp ps.length (ints ps)) :
    Calls Try.prog 30 #[.pointer (some ⟨j, 0, none⟩)] w fun e w' => e = .returned (.int .i64 (jFirst ps)) ∧ w' = w := by
  obtain ⟨A, c, rfl, h1, h2, h3, h4⟩ := ints_see h
  cases ps with
  | nil =>
    have e0 : jFirst [] = 0 := rfl
    rw [e0]
    clear h h3 h4
    go_enter Try.func30, Try.ntmps30
    go_wp2
    go_ret
    exact ⟨rfl, rfl⟩
  | cons p r =>
    obtain ⟨g, rfl, _⟩ := h3 (by simp)
    have h0 := h4 g rfl 0 p rfl
    have e0 : jFirst (p :: r) = p := rfl
    rw [e0]
    have hl : (0 : Int) < ((p :: r).length : Int) := by rw [List.length_cons]; omega
    have hb : (((p :: r).length : Int) == 0) = false := by rw [beq_eq_false_iff_ne]; omega
    obtain ⟨n, hn⟩ : ∃ n, n = (p :: r).length := ⟨_, rfl⟩
    rw [← hn] at hl hb hc
    clear h h3 h4 h1 hn
    go_enter Try.func30, Try.ntmps30
    go_wp2
    go_ret
    exact ⟨rfl, rfl⟩

set_option maxHeartbeats 1000000 in
theorem next_any (w : World) (j : Nat) (F G : Nat → Prop) (vp vl : Value) (ps : List Int) (rs : List (List UInt8)) (hc : w.cell? ⟨j, 2, none⟩ = some vp) (hd : w.cell? ⟨j, 3, none⟩ = some vl) (h : Own w F 3 1 vp ps.length (ints ps)) (hr : Recs w G vl rs) (hm : Mild ps) (hl : rs.length ≤ 1000000) :
    Calls Try.prog 31 #[.pointer (some ⟨j, 0, none⟩)] w fun e w' => e = .returned (.int .i64 (jNext ps rs)) ∧ ∃ n, w' = w.drewN n := by
  obtain ⟨A, c, rfl, _, _⟩ := hr.len
  have hf := hm.first
  have H := As.mk (fun n => first_any (w.drewN n) j F vp ps hc h)
  obtain ⟨f, hff⟩ : ∃ f, f = jFirst ps := ⟨_, rfl⟩
  have e0 : jNext ps rs = f + rs.length := by rw [hff]; rfl
  rw [e0]
  rw [← hff] at hf H
  have hw := IntWalk.i64_in (f + (rs.length : Int)) (by omega)
  clear h hr hm e0 hff hc
  go_enter Try.func31, Try.ntmps31
  go_wp2_with fail
  refine wp_region_plan_at [0, 2, 3, 4, 5, 6, 1, 7, 8] (fun w' => w' = w.drew) (by kernel_rfl) rfl ?_
  have hS : w.drew = w.drew := rfl
  simp only [permOf, List.getElem?_cons_zero, List.getElem?_cons_succ, Nat.reduceAdd, List.size_toArray, List.length_cons, List.length_nil, Array.replicate, List.replicate]
  repeat
    refine plan_take (v := ?_) rfl (by kernel_rfl) (by rfl) hS ?_ ?_
    rotate_left 1
    · intro w hSw; subst hSw; go_simp
      try with_reducible rfl
    simp only [Act.put, List.setIfInBounds_toArray, List.set_cons_zero, List.set_cons_succ]
  refine plan_do rfl (by kernel_rfl) (by rfl) (fun K hK => ?_)
  go_simp
  go_at_call 30
  refine (H.out 1).mono ?_
  rintro e w7 ⟨rfl, rfl⟩
  refine hK.out _ _ rfl ?_
  clear K hK
  simp only [Act.put, List.setIfInBounds_toArray, List.set_cons_zero, List.set_cons_succ]
  repeat
    refine plan_take (v := ?_) rfl (by kernel_rfl) (by rfl) hS ?_ ?_
    rotate_left 1
    · intro w hSw; go_simp
      try with_reducible rfl
    simp only [Act.put, List.setIfInBounds_toArray, List.set_cons_zero, List.set_cons_succ]
  refine plan_done (by kernel_rfl) (NoPanic.normal ?_)
  go_wp2
  go_ret
  exact ⟨rfl, 1, rfl⟩
end Go.Proofs.Ytnonbimelkagpaa
