/- nogginref06.Reader: what it reads. -/
import Derived.Test.YtadiedcnkookhaaDoorWireC
namespace Go.Proofs.YtadiedcnkookhaaDoor
set_option linter.unusedVariables false
set_option linter.unusedSimpArgs false
open Go.RowKit Go.Lib

theorem acc_lt (n x i : Nat) (hn : n < 128 ^ i) (hi : i ≤ 9) (h9 : i = 9 → x ≤ 1) : n + x % 128 * 128 ^ i < 18446744073709551616 := by
  have h3 : (128 : Nat) ^ 9 = 9223372036854775808 := by decide
  rcases Nat.lt_or_ge i 9 with h8 | h8
  · have h2 : 128 ^ (i + 1) ≤ 128 ^ 9 := Nat.pow_le_pow_right (by decide) (by omega)
    have h4 : x % 128 * 128 ^ i ≤ 127 * 128 ^ i := Nat.mul_le_mul_right _ (by omega)
    rw [Nat.pow_succ] at h2
    omega
  · obtain rfl : i = 9 := by omega
    have := h9 rfl
    rw [h3] at hn ⊢
    omega
theorem acc_ok (n x i pw : Nat) (hp : pw = 128 ^ i) (hn : n < 128 ^ i) (hi : i ≤ 9) (h9 : i = 9 → x ≤ 1) :
    ∃ S : Nat, S = n + x % 128 * 128 ^ i ∧ IntKind.u64.wrap ((x : Int) % 128 * (pw : Int)) = (x : Int) % 128 * (pw : Int) ∧ IntKind.u64.wrap ((n : Int) + (x : Int) % 128 * (pw : Int)) = (S : Int) := by
  subst hp
  have := acc_lt n x i hn hi h9
  refine ⟨_, rfl, ?_⟩
  rw [IntKind.wrap_u64, IntKind.wrap_u64, show (x : Int) % 128 = ((x % 128 : Nat) : Int) by omega, ← Int.natCast_mul]; omega
theorem ism_fail {T : Nat} {wr w : World} {g : Nat} {F : Nat → Prop} {l : List UInt8} {A : Option Addr} {c : Nat} {a p b : Int} {q r : Nat} (hb : wr.heap[g]? = some (.cells #[.slice A l.length c, .int .i64 a, .bool false, .int .i64 p] T (0, 0)))
    (hK : Kp (Is g) w wr) (hr : Rd w F A (u8s l)) (hF : ¬ F g) (hl : l.length ≤ 1000000000) (hlc : l.length ≤ c) (hq : b = (q : Int)) :
    IsR T ((wr.setCell ⟨g, 2, none⟩ (.bool true)).setCell ⟨g, 3, none⟩ (.int .i64 b)) g F l ⟨r, some q⟩ := isr_fail hb hK hr hF hl hlc 0 hq

set_option maxHeartbeats 2000000 in
set_option maxRecDepth 100000 in
theorem mnum_any (g : Nat) (F : Nat → Prop) (l : List UInt8) (s : St) (w : World) (h : IsR 37 w g F l s) :
    Calls Tryd.prog 21 #[.pointer (some ⟨g, 0, none⟩)] w fun e w' => e = .returned (.int .u64 ((rNum l s).1 : Int)) ∧ IsR 37 w' g F l (rNum l s).2 ∧ Kp (Is g) w w' := by
  have H := As.mk h
  obtain ⟨A, c, a, p, hb, hr, hF, hl, hlc, hs, hq⟩ := h
  have B := As.mk hb
  have R := As.mk hr
  obtain ⟨c0, c1, c2, c3, fz⟩ := blk4 hb
  clear hb hr
  obtain ⟨a0, b0⟩ := s
  cases b0 with
  | some q =>
    clear hs hq
    go_enter Tryd.func21, Tryd.ntmps21
    go_wp2
    go_ret
    exact ⟨rfl, H.out, Kp.refl _ _⟩
  | none =>
    obtain ⟨rfl, ha⟩ := hs rfl
    have ha' : a0 ≤ l.length := ha
    clear hs hq ha
    go_enter Tryd.func21, Tryd.ntmps21
    go_wp2
    go_loopg [3, 4, 5] 10 (fun k v3 v4 v5 wr => ∃ (i n pw : Nat) (ix : Int), v3 = .int .u64 (n : Int) ∧ v4 = .int .u64 (pw : Int) ∧ v5 = .int .i64 ix ∧ 0 ≤ ix ∧ ix ≤ 1000000000 ∧ i ≤ 9 ∧
      As (ix = (a0 : Int) + (i : Int) ∧ i + k = 10 ∧ pw = 128 ^ i ∧ n < 128 ^ i ∧ rdGo (l.drop (a0 + i)) i n = rdGo (l.drop a0) 0 0) ∧ a0 + i ≤ l.length ∧ As (∃ m, wr = w.drewN m))
    case atStart => exact ⟨0, 0, 1, (a0 : Int), rfl, rfl, rfl, by omega, by omega, by omega, ⟨by omega, rfl, rfl, by decide, rfl⟩, by omega, ⟨0, rfl⟩⟩
    case round =>
      obtain ⟨i, n, pw, ix, rfl, rfl, rfl, hx0, hx1, hi, HP, hai, ⟨m, rfl⟩⟩ := hrel
      obtain ⟨hix, hk, hpw, hn, hgo⟩ := HP.out
      by_cases hlt : a0 + i < l.length
      · obtain ⟨x, hx⟩ : ∃ x, l[a0 + i]? = some x := ⟨_, List.getElem?_eq_getElem hlt⟩
        obtain ⟨ad, rfl, _, hcx⟩ := R.out.at_ (u8s_get hx)
        rw [show a0 + i = ix.toNat by omega] at hcx
        have HX := As.mk hx
        have hxl := x.toNat_lt
        have tlt : decide (ix < (l.length : Int)) = true := by rw [decide_eq_true_eq]; omega
        have tl2 : decide (ix < (a0 : Int) + 10) = true := by rw [decide_eq_true_eq]; omega
        have hixl : ix < (l.length : Int) := by omega
        have hix10 : ix < (a0 : Int) + 10 := by omega
        clear hx tlt tl2
        by_cases hb1 : i = 9 ∧ 1 < x.toNat
        · have HN := As.mk (rNum_none (hgo.symm.trans (rdGo_break HX.out (.inl hb1))))
          have t1 : (ix == (a0 : Int) + 9) = true := by rw [beq_iff_eq]; omega
          have t2 : decide (1 < (x.toNat : Int)) = true := by rw [decide_eq_true_eq]; omega
          clear hix hk hpw hn hgo hb1 HP
          go_wp2
          repeat (go_quiet (fail); try go_wp2)
          go_ret
          rw [HN.out]
          exact ⟨rfl, isr_fail B.out (Kp.refl (Is g) w) R.out hF hl hlc _ rfl, (((Kp.refl (Is g) w).drewN _).set 2 _).set 3 _⟩
        · obtain ⟨S, hS, m1, m2⟩ := acc_ok n x.toNat i pw hpw hn hi (by omega)
          by_cases hb2 : x.toNat = 0 ∧ 0 < i
          · have HN := As.mk (rNum_none (hgo.symm.trans (rdGo_break HX.out (.inr hb2))))
            have t2 : decide (1 < (x.toNat : Int)) = false := by rw [decide_eq_false_iff_not]; omega
            have t3 : (x.toNat : Int) < 128 := by omega
            have t4 : decide ((a0 : Int) < ix) = true := by rw [decide_eq_true_eq]; omega
            have t5 : ((x.toNat : Int) == 0) = true := by rw [beq_iff_eq]; omega
            clear hS hix hk hpw hn hgo hb1 hb2 HP
            rcases Bool.eq_false_or_eq_true (ix == (a0 : Int) + 9) with t1 | t1
            all_goals
              go_wp2
              repeat (go_quiet (fail); try go_wp2)
              go_ret
              rw [HN.out]
              exact ⟨rfl, isr_fail B.out (Kp.refl (Is g) w) R.out hF hl hlc _ rfl, (((Kp.refl (Is g) w).drewN _).set 2 _).set 3 _⟩
          · have hbr : ¬ ((i = 9 ∧ 1 < x.toNat) ∨ (x.toNat = 0 ∧ 0 < i)) := by omega
            by_cases t3 : (x.toNat : Int) < 128
            · have HN := As.mk (rNum_some (hgo.symm.trans (rdGo_last HX.out hi hbr (by omega))))
              rw [← hS] at HN
              clear hS
              have hcs : ((ix == (a0 : Int) + 9) = true ∧ decide (1 < (x.toNat : Int)) = false ∧ decide ((a0 : Int) < ix) = true ∧ ((x.toNat : Int) == 0) = false) ∨ ((ix == (a0 : Int) + 9) = false ∧ decide ((a0 : Int) < ix) = true ∧ ((x.toNat : Int) == 0) = false) ∨ ((ix == (a0 : Int) + 9) = false ∧ decide ((a0 : Int) < ix) = false) := by
                simp only [beq_iff_eq, decide_eq_true_eq, decide_eq_false_iff_not, beq_eq_false_iff_ne]; omega
              have HE : As (ix = (a0 : Int) + i ∧ pw = 128 ^ i) := ⟨hix, hpw⟩
              clear hix hk hpw hn hgo hb1 hb2 HP hbr
              rcases hcs with ⟨t1, t2, t4, t5⟩ | ⟨t1, t4, t5⟩ | ⟨t1, t4⟩
              all_goals
                go_wp2
                repeat (go_quiet (fail); try go_wp2)
                go_ret
                rw [HN.out]
                exact ⟨rfl, ⟨some ad, c, _, p, blk_set (blk_drewN B.out _) 1 _, R.out.kp (((Kp.refl (Is g) w).drewN _).set 1 _) (Is.no hF), hF, hl, hlc, fun _ => ⟨by have := HE.out.1; simp; omega, by simp; omega⟩, (fun q h => by cases h)⟩, ((Kp.refl (Is g) w).drewN _).set 1 _⟩
            · have HG := As.mk ((rdGo_more HX.out hi hbr (by omega)).symm.trans hgo)
              have t1 : (ix == (a0 : Int) + 9) = false := by rw [beq_eq_false_iff_ne]; omega
              have hi8 : i + 1 ≤ 9 := by omega
              have hp128 : 128 ^ i * 128 ≤ 9223372036854775808 := by
                have h2 : 128 ^ (i + 1) ≤ 128 ^ 9 := Nat.pow_le_pow_right (by decide) (by omega)
                rw [Nat.pow_succ] at h2
                exact h2
              obtain ⟨Q, hQ, m3⟩ : ∃ Q : Nat, Q = 128 ^ (i + 1) ∧ IntKind.u64.wrap ((pw : Int) * 128) = (Q : Int) := ⟨128 ^ (i + 1), rfl, by rw [IntKind.wrap_u64, Nat.pow_succ, hpw]; omega⟩
              have HE : As (ix + 1 = (a0 : Int) + ((i + 1 : Nat) : Int) ∧ i + 1 + (gk - 1) = 10 ∧ Q = 128 ^ (i + 1) ∧ S < 128 ^ (i + 1) ∧ rdGo (l.drop (a0 + (i + 1))) (i + 1) S = rdGo (l.drop a0) 0 0 ∧ gk - 1 < gk) := ⟨by omega, by omega, hQ, by
                have h1 : x.toNat % 128 * 128 ^ i ≤ 127 * 128 ^ i := Nat.mul_le_mul_right _ (by omega)
                rw [Nat.pow_succ]; omega, by rw [hS]; exact HG.out, by omega⟩
              clear hS hQ hix hk hpw hn hgo hb1 hb2 HP hbr hp128 HG
              go_wp2
              repeat (go_quiet (fail); try go_wp2)
              go_roundg (gk - 1)
              case measure => exact HE.out.2.2.2.2.2
              case rel => exact ⟨i + 1, S, Q, ix + 1, rfl, rfl, by go_num, by omega, by omega, hi8, ⟨HE.out.1, HE.out.2.1, HE.out.2.2.1, HE.out.2.2.2.1, HE.out.2.2.2.2.1⟩, by omega, ⟨_, rfl⟩⟩
      · have HN := As.mk (rNum_none (hgo.symm.trans (rdGo_end (by omega))))
        have t1 : decide (ix < (l.length : Int)) = false := by rw [decide_eq_false_iff_not]; omega
        clear hix hk hpw hn hgo HP
        go_wp2
        repeat (go_quiet (fail); try go_wp2)
        go_ret
        rw [HN.out]
        exact ⟨rfl, isr_fail B.out (Kp.refl (Is g) w) R.out hF hl hlc _ rfl, (((Kp.refl (Is g) w).drewN _).set 2 _).set 3 _⟩
end Go.Proofs.YtadiedcnkookhaaDoor
