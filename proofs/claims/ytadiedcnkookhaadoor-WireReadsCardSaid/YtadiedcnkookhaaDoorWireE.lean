/- nogginref06.Reader: whole numbers, texts, the end. -/
import Derived.Test.YtadiedcnkookhaaDoorWireD
namespace Go.Proofs.YtadiedcnkookhaaDoor
set_option linter.unusedVariables false
set_option linter.unusedSimpArgs false
open Go.RowKit Go.Lib

set_option maxHeartbeats 2000000 in
theorem mwhole_any (g : Nat) (F : Nat → Prop) (l : List UInt8) (s : St) (w : World) (h : IsR 37 w g F l s) :
    Calls Tryd.prog 23 #[.pointer (some ⟨g, 0, none⟩)] w fun e w' => e = .returned (.int .i64 (zag (rNum l s).1)) ∧ IsR 37 w' g F l (rNum l s).2 ∧ Kp (Is g) w w' := by
  have hc := As.mk (mnum_any g F l s w h)
  have hlt := rNum_lt l s
  obtain ⟨n, hn⟩ : ∃ n, n = (rNum l s).1 := ⟨_, rfl⟩
  have HN := As.mk hn
  rw [← hn] at hc hlt ⊢
  clear hn h
  by_cases h2 : n % 2 = 1
  · have hz : zag n = -1 - (n : Int) / 2 := by unfold zag; rw [if_pos h2]; omega
    have HZ := As.mk hz
    have h3 : ((n : Int) % 2 == 1) = true := by rw [beq_iff_eq]; omega
    clear hz h2
    go_enter Tryd.func23, Tryd.ntmps23
    go_wp2_with (go_at_call 21; go_must (refine hc.out.mono ?_; rintro e w1 ⟨rfl, ho, hk⟩; have O := As.mk ho; have K := As.mk hk; clear ho hk hc))
    go_ret
    exact ⟨by rw [HZ.out]; rfl, O.out, K.out⟩
  · have hz : zag n = (n : Int) / 2 := by unfold zag; rw [if_neg h2]; omega
    have HZ := As.mk hz
    have h3 : ((n : Int) % 2 == 1) = false := by rw [beq_eq_false_iff_ne]; omega
    clear hz h2
    go_enter Tryd.func23, Tryd.ntmps23
    go_wp2_with (go_at_call 21; go_must (refine hc.out.mono ?_; rintro e w1 ⟨rfl, ho, hk⟩; have O := As.mk ho; have K := As.mk hk; clear ho hk hc))
    go_ret
    exact ⟨by rw [HZ.out]; rfl, O.out, K.out⟩

set_option maxHeartbeats 4000000 in
set_option maxRecDepth 100000 in
theorem mtext_any (g : Nat) (F : Nat → Prop) (l : List UInt8) (s : St) (most : Int) (w : World) (h : IsR 37 w g F l s) (hm1 : most ≤ 9223372036854775807) :
    Calls Tryd.prog 25 #[.pointer (some ⟨g, 0, none⟩), .int .i64 most] w fun e w' => e = .returned (.string ⟨(rText l most s).1.toArray⟩) ∧ IsR 37 w' g F l (rText l most s).2 ∧ Kp (Is g) w w' := by
  have hc := As.mk (mnum_any g F l s w h)
  have hlt := rNum_lt l s
  have H := As.mk h
  obtain ⟨A, c, a, p, hb, hr, hF, hl, hlc, hs, hq⟩ := h
  obtain ⟨a0, b0⟩ := s
  obtain ⟨R, hR⟩ : ∃ R, R = rText l most ⟨a0, b0⟩ := ⟨_, rfl⟩
  rw [← hR]
  obtain ⟨n, s', hn⟩ : ∃ n s', rNum l ⟨a0, b0⟩ = (n, s') := ⟨_, _, rfl⟩
  unfold rText at hR
  have hbad := rNum_bad l ⟨a0, b0⟩
  rw [hn] at hc hlt hR hbad
  simp only at hc hlt hR hbad
  obtain ⟨a', bad'⟩ := s'
  obtain ⟨c0, c1, c2, c3, fz⟩ := blk4 hb
  cases bad' with
  | some q =>
    simp only at hR
    subst hR
    clear hs hq hlt hn hbad hb hr
    go_enter Tryd.func25, Tryd.ntmps25
    go_wp2_with (go_at_call 21; go_must (refine hc.out.mono ?_; rintro e w1 ⟨rfl, ho, hk⟩; have O := As.mk ho; have K := As.mk hk; obtain ⟨A1, c1', a1, p1, hb1, _⟩ := ho; obtain ⟨_, _, d2, _, _⟩ := blk4 hb1; clear hb1 hk hc c0 c1 c2 c3 fz))
    go_ret
    exact ⟨rfl, O.out, K.out⟩
  | none =>
    obtain rfl : b0 = none := hbad rfl
    obtain ⟨rfl, ha0⟩ := hs rfl
    have ha0' : a0 ≤ l.length := ha0
    simp only at hR
    clear ha0 hs hq hn hbad hr hb
    by_cases hcond : most < 0 ∨ most < (n : Int) ∨ l.length - a' < n
    · rw [if_pos hcond] at hR
      subst hR
      have hcs : most < 0 ∨ (0 ≤ most ∧ most < (n : Int)) ∨ (0 ≤ most ∧ (n : Int) ≤ most ∧ l.length - a' < n) := by omega
      clear hcond
      rcases hcs with h1 | ⟨h1, h2⟩ | ⟨h1, h2, h3⟩
      all_goals
        go_enter Tryd.func25, Tryd.ntmps25
        go_wp2_with (go_at_call 21; go_must (refine hc.out.mono ?_; rintro e w1 ⟨rfl, ho, hk⟩; have K := As.mk hk; obtain ⟨A1, c1', a1, p1, hb1, hr1, _, _, hlc1, hs1, _⟩ := ho; obtain ⟨rfl, ha⟩ := hs1 rfl; have hac : a' ≤ l.length := ha; have B1 := As.mk hb1; have R1 := As.mk hr1; obtain ⟨d0, d1, d2, d3, dz⟩ := blk4 hb1; clear hb1 hr1 hs1 ha hk hc c0 c1 c2 c3 fz))
        first
          | (have e1 : decide (most < 0) = true := by rw [decide_eq_true_eq]; omega)
          | (have e1 : decide (most < 0) = false := by rw [decide_eq_false_iff_not]; omega
             have w1 : IntKind.u64.wrap most = most := by rw [IntKind.wrap_u64]; omega
             have w2 : IntKind.i64.wrap ((l.length : Int) - (a' : Int)) = (l.length : Int) - (a' : Int) := by rw [IntKind.wrap_i64]; omega
             have w3 : IntKind.u64.wrap ((l.length : Int) - (a' : Int)) = (l.length : Int) - (a' : Int) := by rw [IntKind.wrap_u64]; omega
             first
               | (have e2 : decide (most < (n : Int)) = true := by rw [decide_eq_true_eq]; omega)
               | (have e2 : decide (most < (n : Int)) = false := by rw [decide_eq_false_iff_not]; omega
                  have e3 : decide ((l.length : Int) - (a' : Int) < (n : Int)) = true := by rw [decide_eq_true_eq]; omega))
        go_quiet (fail)
        go_wp2_with fail
        go_ret
        exact ⟨rfl, isr_fail (A := A1) B1.out (Kp.refl (Is g) _) R1.out hF hl hlc1 _ rfl, ((K.out.drewN _).set 2 _).set 3 _⟩
    · rw [if_neg hcond] at hR
      subst hR
      have hm0 : 0 ≤ most := by omega
      have hnm : (n : Int) ≤ most := by omega
      have hna : n ≤ l.length - a' := by omega
      clear hcond
      go_enter Tryd.func25, Tryd.ntmps25
      go_wp2_with (go_at_call 21; go_must (refine hc.out.mono ?_; rintro e w1 ⟨rfl, ho, hk⟩; have K := As.mk hk; obtain ⟨A1, c1', a1, p1, hb1, hr1, _, _, hlc1, hs1, _⟩ := ho; obtain ⟨rfl, ha⟩ := hs1 rfl; have hac : a' ≤ l.length := ha; have B1 := As.mk hb1; have R1 := As.mk hr1; obtain ⟨d0, d1, d2, d3, dz⟩ := blk4 hb1; clear hb1 hr1 hs1 ha hk hc c0 c1 c2 c3 fz))
      have e1 : decide (most < 0) = false := by rw [decide_eq_false_iff_not]; omega
      have w1' : IntKind.u64.wrap most = most := by rw [IntKind.wrap_u64]; omega
      have w2 : IntKind.i64.wrap ((l.length : Int) - (a' : Int)) = (l.length : Int) - (a' : Int) := by rw [IntKind.wrap_i64]; omega
      have w3 : IntKind.u64.wrap ((l.length : Int) - (a' : Int)) = (l.length : Int) - (a' : Int) := by rw [IntKind.wrap_u64]; omega
      have e2 : decide (most < (n : Int)) = false := by rw [decide_eq_false_iff_not]; omega
      have e3 : decide ((l.length : Int) - (a' : Int) < (n : Int)) = false := by rw [decide_eq_false_iff_not]; omega
      go_quiet (fail)
      clear e1 w1' w2 w3 e2 e3
      have hn0 : (n : Int) ≤ 1000000000 := by omega
      have ha0 : (a' : Int) ≤ 1000000000 := by omega
      go_wp2_with fail
      rename_i nq _ _
      have hcut := fun W => run_cutN (P := Tryd.prog) (A := A1) W 22 5 Tryd.underlying22 rfl 1 size8 l.length c1' a' n (by omega)
      have hcv := fun k => run_conv_str (P := Tryd.prog) (F := F) (w1.drewN k) 22 9 5 Tryd.underlying22 Tryd.underlying5 Tryd.underlying9 n (c1' - a') ((l.drop a').take n) (by rw [List.length_take, List.length_drop]; omega)
        (A := cutA A1 a' c1' 1) (by
          rw [show u8s ((l.drop a').take n) = ((u8s l).drop (a' * 1)).take n by simp [u8s, List.map_drop, List.map_take]]
          refine Rd.take (Rd.cutA (Rd.kp R1.out ((Kp.refl (Is g) w1).drewN k) (Is.no hF)) a' c1' 1 ?_) n
          rw [u8s_length]; omega)
      have w1' : IntKind.i64.wrap ((a' : Int) + (n : Int)) = (a' : Int) + (n : Int) := by rw [IntKind.wrap_i64]; omega
      have w3 : IntKind.i64.wrap (n : Int) = (n : Int) := by rw [IntKind.wrap_i64]; omega
      go_quiet (fail)
      clear w1' w3
      go_wp2_with fail
      go_ret
      exact ⟨rfl, ⟨A1, c1', _, p1, blk_set (blk_drewN B1.out _) 1 _, R1.out.kp (((Kp.refl (Is g) w1).drewN _).set 1 _) (Is.no hF), hF, hl, hlc1, fun _ => ⟨by simp, by simp; omega⟩, (fun q h => by cases h)⟩, ((K.out.drewN _).set 1 _)⟩

set_option maxHeartbeats 4000000 in
set_option maxRecDepth 100000 in
theorem mend_any (g : Nat) (F : Nat → Prop) (l : List UInt8) (s : St) (w : World) (h : IsR 37 w g F l s) :
    Calls Tryd.prog 27 #[.pointer (some ⟨g, 0, none⟩)] w fun e w' => e = .returned (.int .i64 (match (rEnd l s).bad with | none => -1 | some q => (q : Int))) ∧ IsR 37 w' g F l (rEnd l s) ∧ Kp (Is g) w w' := by
  have H := As.mk h
  obtain ⟨A, c, a, p, hb, hr, hF, hl, hlc, hs, hq⟩ := h
  have B := As.mk hb
  have R := As.mk hr
  obtain ⟨c0, c1, c2, c3, fz⟩ := blk4 hb
  obtain ⟨a0, b0⟩ := s
  cases b0 with
  | some q =>
    obtain rfl := hq q rfl
    clear hs hq hb hr
    have e : rEnd l ⟨a0, some q⟩ = ⟨a0, some q⟩ := rfl
    rw [e]
    go_enter Tryd.func27, Tryd.ntmps27
    go_wp2_with fail
    go_quiet (fail)
    go_wp2_with fail
    go_ret
    exact ⟨rfl, IsR.keep H.out ((Kp.refl No w).drewN _), (Kp.refl _ w).drewN _⟩
  | none =>
    obtain ⟨rfl, ha⟩ := hs rfl
    clear hs hq hb hr
    by_cases hlt : a0 < l.length
    · have hlt' : decide ((a0 : Int) < (l.length : Int)) = true := by rw [decide_eq_true_eq]; omega
      have e : rEnd l ⟨a0, none⟩ = ⟨a0, some a0⟩ := by simp [rEnd, hlt]
      rw [e]
      go_enter Tryd.func27, Tryd.ntmps27
      go_wp2_with fail
      go_quiet (fail)
      go_wp2_with fail
      go_ret
      exact ⟨rfl, isr_fail (A := A) B.out (Kp.refl (Is g) w) R.out hF hl hlc _ rfl, ((((Kp.refl (Is g) w).drewN _).set 2 _).set 3 _)⟩
    · have hlt' : decide ((a0 : Int) < (l.length : Int)) = false := by rw [decide_eq_false_iff_not]; omega
      have e : rEnd l ⟨a0, none⟩ = ⟨a0, none⟩ := by simp [rEnd, hlt]
      rw [e]
      go_enter Tryd.func27, Tryd.ntmps27
      go_wp2_with fail
      go_quiet (fail)
      go_wp2_with fail
      go_ret
      exact ⟨rfl, IsR.keep H.out ((Kp.refl No w).drewN _), (Kp.refl _ w).drewN _⟩
end Go.Proofs.YtadiedcnkookhaaDoor
