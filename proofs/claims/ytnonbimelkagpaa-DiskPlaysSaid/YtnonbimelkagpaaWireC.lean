/- wire.Reader.Text and End. -/
import Derived.Test.YtnonbimelkagpaaWireB
namespace Go.Proofs.Ytnonbimelkagpaa
set_option linter.unusedVariables false
set_option linter.unusedSimpArgs false
open Go.RowKit Go.Lib

/-- A text. -/
def rText (l : List UInt8) (most : Int) (s : St) : List UInt8 × St :=
  match (rNum l s).2.bad with
  | some _ => ([], (rNum l s).2)
  | none => if most < 0 ∨ most < ((rNum l s).1 : Int) ∨ l.length - (rNum l s).2.at_ < (rNum l s).1 then ([], ⟨s.at_, some s.at_⟩)
    else ((l.drop (rNum l s).2.at_).take (rNum l s).1, ⟨(rNum l s).2.at_ + (rNum l s).1, none⟩)
/-- The end. -/
def rEnd (l : List UInt8) (s : St) : St :=
  match s.bad with
  | some _ => s
  | none => if s.at_ < l.length then ⟨s.at_, some s.at_⟩ else s

theorem rNum_bad (l : List UInt8) (s : St) (h : (rNum l s).2.bad = none) : s.bad = none := by
  unfold rNum at h
  split at h
  · simp_all
  · assumption

theorem size8 (w : World) : (sizeOf 5).run Try.prog w = .ok 1 w := by kernel_rfl

theorem bad_none {l : List UInt8} {s : St} (h : s.bad = none) : s = ⟨s.at_, none⟩ := by cases s; simp_all

set_option maxHeartbeats 4000000 in
set_option maxRecDepth 100000 in
theorem rtext_any (g : Nat) (F : Nat → Prop) (l : List UInt8) (s : St) (most : Int) (w : World) (h : IsR 110 w g F l s) (hm1 : most ≤ 9223372036854775807) :
    Calls Try.prog 52 #[.pointer (some ⟨g, 0, none⟩), .int .i64 most] w fun e w' => e = .returned (.string ⟨(rText l most s).1.toArray⟩) ∧ IsR 110 w' g F l (rText l most s).2 ∧ Kp (Is g) w w' := by
  have hc := As.mk (rnum_any g F l s w h)
  have hlt := rNum_lt l s
  have H := As.mk h
  obtain ⟨A, c, a, p, hb, hr, hF, hl, hlc, hs, hq⟩ := h
  obtain ⟨a0, b0⟩ := s
  obtain ⟨R, hR⟩ : ∃ R, R = rText l most ⟨a0, b0⟩ := ⟨_, rfl⟩
  rw [← hR]
  obtain ⟨n, s', hn⟩ : ∃ n s', rNum l ⟨a0, b0⟩ = (n, s') := ⟨_, _, rfl⟩
  unfold rText at hR
  have hbad := rNum_bad l ⟨a0, b0⟩
  rw [hn] at hc hlt hR hbad
  simp only at hc hlt hR hbad
  obtain ⟨a', bad'⟩ := s'
  obtain ⟨c0, c1, c2, c3, fz⟩ := blk4 hb
  cases bad' with
  | some q =>
    simp only at hR
    subst hR
    clear hs hq hlt hn hbad hb hr
    go_enter Try.func52, Try.ntmps52
    go_wp2_with (go_at_call 64; go_must (refine hc.out.mono ?_; rintro e w1 ⟨rfl, ho, hk⟩; have O := As.mk ho; have K := As.mk hk; obtain ⟨A1, c1', a1, p1, hb1, _⟩ := ho; obtain ⟨_, _, d2, _, _⟩ := blk4 hb1; clear hb1 hk hc c0 c1 c2 c3 fz))
    go_ret
    exact ⟨rfl, O.out, K.out⟩
  | none =>
    obtain rfl : b0 = none := hbad rfl
    obtain ⟨rfl, ha0⟩ := hs rfl
    have ha0' : a0 ≤ l.length := ha0
    simp only at hR
    clear ha0 hs hq hn hbad hr hb
    by_cases hcond : most < 0 ∨ most < (n : Int) ∨ l.length - a' < n
    · rw [if_pos hcond] at hR
      subst hR
      have hcs : most < 0 ∨ (0 ≤ most ∧ most < (n : Int)) ∨ (0 ≤ most ∧ (n : Int) ≤ most ∧ l.length - a' < n) := by omega
      clear hcond
      rcases hcs with h1 | ⟨h1, h2⟩ | ⟨h1, h2, h3⟩
      all_goals
        go_enter Try.func52, Try.ntmps52
        go_wp2_with (go_at_call 64; go_must (refine hc.out.mono ?_; rintro e w1 ⟨rfl, ho, hk⟩; have K := As.mk hk; obtain ⟨A1, c1', a1, p1, hb1, hr1, _, _, hlc1, hs1, _⟩ := ho; obtain ⟨rfl, ha⟩ := hs1 rfl; have hac : a' ≤ l.length := ha; have B1 := As.mk hb1; have R1 := As.mk hr1; obtain ⟨d0, d1, d2, d3, dz⟩ := blk4 hb1; clear hb1 hr1 hs1 ha hk hc c0 c1 c2 c3 fz))
        first
          | (have e1 : decide (most < 0) = true := by rw [decide_eq_true_eq]; omega)
          | (have e1 : decide (most < 0) = false := by rw [decide_eq_false_iff_not]; omega
             have w1 : IntKind.u64.wrap most = most := by rw [IntKind.wrap_u64]; omega
             have w2 : IntKind.i64.wrap ((l.length : Int) - (a' : Int)) = (l.length : Int) - (a' : Int) := by rw [IntKind.wrap_i64]; omega
             have w3 : IntKind.u64.wrap ((l.length : Int) - (a' : Int)) = (l.length : Int) - (a' : Int) := by rw [IntKind.wrap_u64]; omega
             first
               | (have e2 : decide (most < (n : Int)) = true := by rw [decide_eq_true_eq]; omega)
               | (have e2 : decide (most < (n : Int)) = false := by rw [decide_eq_false_iff_not]; omega
                  have e3 : decide ((l.length : Int) - (a' : Int) < (n : Int)) = true := by rw [decide_eq_true_eq]; omega))
        go_quiet (fail)
        go_wp2_with (go_at_call 65; go_must (refine (fail_yes g _ _ (.int .i64 p1) ?zq1 ?zq2 ?zq3 ?zq4).mono ?_; (case zq1 => simp [go_sem, d2]); (case zq2 => simp [go_sem, d3]); (case zq3 => simp [go_sem, dz]); (case zq4 => simp [go_sem, dz]); rintro e w2 ⟨rfl, rfl⟩))
        go_ret
        exact ⟨rfl, isr_fail (A := A1) B1.out (Kp.refl (Is g) _) R1.out hF hl hlc1 _ rfl, ((K.out.drewN _).set 2 _).set 3 _⟩
    · rw [if_neg hcond] at hR
      subst hR
      have hm0 : 0 ≤ most := by omega
      have hnm : (n : Int) ≤ most := by omega
      have hna : n ≤ l.length - a' := by omega
      clear hcond
      go_enter Try.func52, Try.ntmps52
      go_wp2_with (go_at_call 64; go_must (refine hc.out.mono ?_; rintro e w1 ⟨rfl, ho, hk⟩; have K := As.mk hk; obtain ⟨A1, c1', a1, p1, hb1, hr1, _, _, hlc1, hs1, _⟩ := ho; obtain ⟨rfl, ha⟩ := hs1 rfl; have hac : a' ≤ l.length := ha; have B1 := As.mk hb1; have R1 := As.mk hr1; obtain ⟨d0, d1, d2, d3, dz⟩ := blk4 hb1; clear hb1 hr1 hs1 ha hk hc c0 c1 c2 c3 fz))
      have e1 : decide (most < 0) = false := by rw [decide_eq_false_iff_not]; omega
      have w1' : IntKind.u64.wrap most = most := by rw [IntKind.wrap_u64]; omega
      have w2 : IntKind.i64.wrap ((l.length : Int) - (a' : Int)) = (l.length : Int) - (a' : Int) := by rw [IntKind.wrap_i64]; omega
      have w3 : IntKind.u64.wrap ((l.length : Int) - (a' : Int)) = (l.length : Int) - (a' : Int) := by rw [IntKind.wrap_u64]; omega
      have e2 : decide (most < (n : Int)) = false := by rw [decide_eq_false_iff_not]; omega
      have e3 : decide ((l.length : Int) - (a' : Int) < (n : Int)) = false := by rw [decide_eq_false_iff_not]; omega
      go_quiet (fail)
      clear e1 w1' w2 w3 e2 e3
      have hn0 : (n : Int) ≤ 1000000000 := by omega
      have ha0 : (a' : Int) ≤ 1000000000 := by omega
      go_wp2_with fail
      rename_i nq _ _
      have hcut := fun W => run_cutN (P := Try.prog) (A := A1) W 22 5 Try.underlying22 rfl 1 size8 l.length c1' a' n (by omega)
      have hcv := fun k => run_conv_str (P := Try.prog) (F := F) (((w1.drewN nq).setCell ⟨g, 1, none⟩ (.int .i64 ((a' : Int) + (n : Int)))).drewN k) 22 9 5 Try.underlying22 Try.underlying5 Try.underlying9 n (c1' - a') ((l.drop a').take n) (by rw [List.length_take, List.length_drop]; omega)
        (A := cutA A1 a' c1' 1) (by
          rw [show u8s ((l.drop a').take n) = ((u8s l).drop (a' * 1)).take n by simp [u8s, List.map_drop, List.map_take]]
          refine Rd.take (Rd.cutA (Rd.kp R1.out ((((Kp.refl (Is g) w1).drewN nq).set 1 _).drewN k) (Is.no hF)) a' c1' 1 ?_) n
          rw [u8s_length]; omega)
      have w1' : IntKind.i64.wrap ((a' : Int) + (n : Int) - (n : Int)) = (a' : Int) := by rw [IntKind.wrap_i64]; omega
      have w2 : IntKind.i64.wrap (a' : Int) = (a' : Int) := by rw [IntKind.wrap_i64]; omega
      have w3 : IntKind.i64.wrap (n : Int) = (n : Int) := by rw [IntKind.wrap_i64]; omega
      go_quiet (fail)
      go_wp2_with fail
      go_ret
      exact ⟨rfl, ⟨A1, c1', _, p1, blk_set (blk_drewN B1.out _) 1 _, R1.out.kp (((Kp.refl (Is g) w1).drewN _).set 1 _ |>.drewN _) (Is.no hF), hF, hl, hlc1, fun _ => ⟨by simp, by simp; omega⟩, (fun q h => by cases h)⟩, ((K.out.drewN _).set 1 _).drewN _⟩

theorem IsR.kp {T : Nat} {w w1 : World} {g : Nat} {F S : Nat → Prop} {l : List UInt8} {s : St} (h : IsR T w g F l s) (hk : Kp S w w1) (hg : ¬ S g) (hf : ∀ k, F k → ¬ S k) : IsR T w1 g F l s := by
  obtain ⟨A, c, a, p, hb, hr, r⟩ := h
  exact ⟨A, c, a, p, hk.heap hb hg, hr.kp hk hf, r⟩
theorem IsR.keep {T : Nat} {w w1 : World} {g : Nat} {F : Nat → Prop} {l : List UInt8} {s : St} (h : IsR T w g F l s) (hk : Kp No w w1) : IsR T w1 g F l s := h.kp hk id (fun _ _ => id)
end Go.Proofs.Ytnonbimelkagpaa
