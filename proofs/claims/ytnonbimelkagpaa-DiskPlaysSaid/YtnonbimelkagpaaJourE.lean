/- journal: slices.Contains; append inside a region that draws; Append, a record onto the last part. -/
import Derived.Test.YtnonbimelkagpaaJourD
namespace Go.Proofs.Ytnonbimelkagpaa
set_option linter.unusedVariables false
set_option linter.unusedSimpArgs false
open Go.RowKit Go.Lib

section
variable {P : Program}
/-- 'append(v, x...)' at the operation alone. -/
theorem app_wp {w : World} {o : Oper} {a : Act} {K : Act → World → Prop} {Q : Exit → Act → World → Prop} (s x : Operand) (t : TypeId)
    (ho : o.op = .call { callee := .builtin .append, args := #[s, x], argTypes := #[t, t] })
    (e : TypeId) (z : Value) (size bytes : Nat) (hinfo : (P.info? e).map (fun i => (i.zero, i.size, i.bytes)) = some (some z, size, bytes)) (ht : P.underlying t = some (.slice e))
    (hzs : z.cells.size = size) (hsz : 0 < size) (v : Value) (n : Nat) (xs : List Value) (hs : a.eval s = v) {G : Nat → Prop} (hown : Own w G e size v n xs)
    {F : Nat → Prop} (A : Option Addr) (m c : Nat) (news : List Value) (hx : a.eval x = .slice A m c) (hr : Rd w F A news) (hl : news.length = m * size) (h1 : ∀ u ∈ news, u.oneCell' = true)
    (h63 : n + m ≤ maxLen) (hbytes : (n + m) * bytes ≤ 140737488355328)
    (h : ∀ v' w', Own w' (fun k => v.ownBlock = some k ∨ w.heap.size ≤ k) e size v' (n + m) (xs ++ news) → w.grownBy w' v.ownBlock → K (a.put o.dst v') w') : Oper.wp P o a w K Q := by
  obtain ⟨v', w', hrun, h2, h3, h4⟩ := run_app (P := P) w t o.type e z size bytes hinfo ht hzs hsz v n xs hown.1 F A m c news hl hr h1 h63 hbytes
  unfold Oper.wp execOp
  simp only [ho, resolve, invoke, builtin, Sem.run_bind, Sem.run_pure, Result.andThen_ok, List.map_toArray, List.map_cons, List.map_nil, hs, hx, hrun]
  exact (h v' w' ⟨h2, fun k hk => by
    rcases h4 with e4 | e4
    · rw [e4] at hk; exact .inl hk
    · rw [e4] at hk; injection hk with hk; exact .inr (by omega)⟩ h3)
end

/-- Where a number stands, from i on; -1: nowhere. -/
def jIdx (v : Int) : List Int → Nat → Int
  | [], _ => -1
  | p :: r, i => if v = p then (i : Int) else jIdx v r (i + 1)
theorem jIdx_ge (v : Int) : ∀ (ps : List Int) (i : Nat), (0 ≤ jIdx v ps i ↔ v ∈ ps)
  | [], i => by simp [jIdx]
  | p :: r, i => by
    unfold jIdx
    split
    · rename_i h; simp [h]
    · rename_i h
      rw [jIdx_ge v r (i + 1)]
      simp [h]
set_option maxHeartbeats 1000000 in
theorem index_any (w : World) (F : Nat → Prop) (vp : Value) (ps : List Int) (h : Own w F 3 1 vp ps.length (ints ps)) (hm : ps.length ≤ 1000000) (v : Int) :
    Calls Try.prog 47 #[vp, .int .i64 v] w fun e w' => e = .returned (.int .i64 (jIdx v ps 0)) ∧ w' = w := by
  obtain ⟨A, c, rfl, h1, h2, h3, h4⟩ := ints_see h
  have H3 := As.mk h3
  have H4 := As.mk h4
  obtain ⟨R, hR⟩ : ∃ R, R = jIdx v ps 0 := ⟨_, rfl⟩
  rw [← hR]
  obtain ⟨n, hn⟩ : ∃ n, n = ps.length := ⟨_, rfl⟩
  rw [← hn]
  rw [← hn] at hm
  have HN := As.mk hn
  have HR := As.mk hR
  clear h h3 h4 hR hn
  go_enter Try.func47, Try.ntmps47
  go_wp2
  go_loop [8] (fun vi => ∃ i : Nat, vi = .int .i64 (i : Int) ∧ i ≤ n ∧ As (jIdx v (ps.drop i) i = R)) (fun vi => n - (intOf vi).toNat)
  case atStart => exact ⟨0, rfl, Nat.zero_le _, ⟨HR.out.symm⟩⟩
  case round =>
    obtain ⟨i, rfl, hi, J⟩ := hrel
    by_cases hlt : i < n
    · have hil : i < ps.length := by have := HN.out; omega
      obtain ⟨g, rfl, _⟩ := H3.out (by intro e; rw [e] at hil; simp at hil)
      obtain ⟨p, hp⟩ : ∃ p, ps[i]? = some p := ⟨_, List.getElem?_eq_getElem hil⟩
      have hcell := H4.out g rfl i p hp
      have hd : ps.drop i = p :: ps.drop (i + 1) := by
        obtain ⟨_, rfl⟩ := List.getElem?_eq_some_iff.1 hp
        exact List.drop_eq_getElem_cons hil
      by_cases hv : v = p
      · have hb : (v == p) = true := by rw [beq_iff_eq]; exact hv
        have e1 : R = (i : Int) := by rw [← J.out, hd, jIdx, if_pos hv]
        have E1 := As.mk e1
        clear hv hd hp e1
        go_wp2
        go_ret
        exact ⟨by rw [E1.out]; rfl, rfl⟩
      · have hb : (v == p) = false := by rw [beq_eq_false_iff_ne]; exact hv
        have e1 : jIdx v (ps.drop (i + 1)) (i + 1) = R := by rw [← J.out, hd, jIdx, if_neg hv]
        have E1 := As.mk e1
        clear hv hd hp e1
        go_wp2
        go_round
        case rel => exact ⟨i + 1, by go_num, by omega, E1⟩
        case measure => simp [intOf]; omega
    · have hge : ¬ i < n := hlt
      have e1 : R = -1 := by
        rw [← J.out, List.drop_of_length_le (by have := HN.out; omega)]; rfl
      have E1 := As.mk e1
      clear e1
      go_wp2
      go_ret
      exact ⟨by rw [E1.out]; rfl, rfl⟩
theorem contains_any (w : World) (F : Nat → Prop) (vp : Value) (ps : List Int) (h : Own w F 3 1 vp ps.length (ints ps)) (hm : ps.length ≤ 1000000) (v : Int) (b : Bool) (hb : b = decide (v ∈ ps)) :
    Calls Try.prog 41 #[vp, .int .i64 v] w fun e w' => e = .returned (.bool b) ∧ w' = w := by
  have X := As.mk (index_any w F vp ps h hm v)
  obtain ⟨R, hR⟩ : ∃ R, R = jIdx v ps 0 := ⟨_, rfl⟩
  have hb2 : b = decide (0 ≤ R) := by rw [hb, hR]; exact decide_eq_decide.2 (jIdx_ge v ps 0).symm
  rw [← hR] at X
  obtain ⟨A, c, rfl, _⟩ := h.read
  cases b with
  | true =>
    have h0 : 0 ≤ R := of_decide_eq_true hb2.symm
    clear hb hb2 hR h
    go_enter Try.func41, Try.ntmps41
    go_wp2_with (go_at_call 47; go_must (refine X.out.mono ?_; rintro e w1 ⟨rfl, rfl⟩))
    go_ret
    exact ⟨rfl, rfl⟩
  | false =>
    have h0 : decide (0 ≤ R) = false := hb2.symm
    clear hb hb2 hR h
    go_enter Try.func41, Try.ntmps41
    go_wp2_with (go_at_call 47; go_must (refine X.out.mono ?_; rintro e w1 ⟨rfl, rfl⟩))
    go_ret
    exact ⟨rfl, rfl⟩
end Go.Proofs.Ytnonbimelkagpaa
