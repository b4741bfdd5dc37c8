/- The walk of DiskLasts: what was synced stays; of what is behind it the first bytes stay, no more than are told. -/
import Derived.Test.YtnonbimelkagpaaLaw08
namespace Go.Proofs.Ytnonbimelkagpaa
set_option linter.unusedVariables false
set_option linter.unusedSimpArgs false
open Go.RowKit Go.Lib

theorem appCode_ok {room n : Int} {L : List Pt} {k : Nat} (h0 : 0 ≤ n) (h : (k : Int) ≤ room - pUsed L) : appCode false room L n k = 0 := by
  unfold appCode
  rw [if_neg (by decide), if_neg (by omega), if_neg (by omega)]
theorem lasts_crash (k : Nat) (a b c : List UInt8) : ∃ L, pCrash k [⟨1, a ++ b, a.length⟩, ⟨2, c, 0⟩] = L ∧ partCode false L 1 = 0 ∧ partCode false L 2 = 0 ∧ pBytes L 1 = a ++ b.take (min k b.length) ∧ pBytes L 2 = c.take (min (k - min k b.length) c.length) := by
  refine ⟨_, rfl, rfl, rfl, ?_, ?_⟩
  · show (a ++ b).take (a.length + min k ((a ++ b).length - a.length)) = _
    rw [List.length_append, Nat.add_sub_cancel_left, List.take_length_add_append]
  · show c.take (0 + min (k - min k ((a ++ b).length - a.length)) (c.length - 0)) = _
    rw [List.length_append, Nat.add_sub_cancel_left, Nat.zero_add, Nat.sub_zero]

/-- A slice reads as the string t, as long as nothing of it turns. -/
theorem conv_of {w : World} {F : Nat → Prop} {A : Option Addr} {n c : Nat} {l : List UInt8} (hr : Rd w F A (u8s l)) (hl : l.length = n) {T : ByteArray} (hT : (⟨l.toArray⟩ : ByteArray) = T) {w' : World} (hk : Kp No w w') : (convert 22 9 (.slice A n c)).run Try.prog w' = .ok (.string T) w' := by
  subst hT
  exact run_conv_str w' 22 9 5 Try.underlying22 Try.underlying5 Try.underlying9 n c l hl (hr.keep hk)
theorem Rd.u8_take {w : World} {F : Nat → Prop} {A : Option Addr} {l : List UInt8} (h : Rd w F A (u8s l)) (k : Nat) : Rd w F A (u8s (l.take k)) := by
  have := h.take k
  rwa [u8s, ← List.map_take] at this

set_option maxHeartbeats 4000000 in
set_option maxRecDepth 100000 in
theorem lasts_big (F : Nat → Prop) (Aa Ab Ac : Option Addr) (na nb nc ca cb cc : Nat) (keep : Int) (w : World) (hna : na ≤ 140737488355328) (hnb : nb ≤ 140737488355328) (hnc : nc ≤ 140737488355328) (hb : 5000 < na + nb + nc) :
    Calls Try.prog 3 #[.slice Aa na ca, .slice Ab nb cb, .slice Ac nc cc, .int .i64 keep] w fun e w' => e = .returned (.bool true) ∧ Kp No w w' := by
  have U := As.mk (up08 w)
  have hb' : (5000 : Int) < (na : Int) + (nb : Int) + (nc : Int) := by omega
  go_enter Try.func3, Try.ntmps3
  go_wp2_with (go_at_call 6; go_must (refine U.out.mono ?_; rintro e w1 ⟨rfl, hk⟩; have K1 := As.mk hk; clear hk U))
  go_ret
  exact ⟨rfl, K1.out⟩

set_option maxHeartbeats 8000000 in
set_option maxRecDepth 100000 in
theorem lasts_small (F : Nat → Prop) (Aa Ab Ac : Option Addr) (na nb nc ca cb cc : Nat) (a b c : List UInt8) (keep : Int) (w : World) (ha : a.length = na) (hbl : b.length = nb) (hcl : c.length = nc) (ra : Rd w F Aa (u8s a)) (rb : Rd w F Ab (u8s b)) (rc : Rd w F Ac (u8s c)) (hcb : nb ≤ cb) (hcc : nc ≤ cc)
    (hk0 : -9223372036854775808 ≤ keep) (hk1 : keep ≤ 9223372036854775807) (hb : na + nb + nc ≤ 5000) :
    Calls Try.prog 3 #[.slice Aa na ca, .slice Ab nb cb, .slice Ac nc cc, .int .i64 keep] w fun e w' => e = .returned (.bool true) ∧ Kp No w w' := by
  have U := As.mk (up08 w)
  have hb' : ¬ (5000 : Int) < (na : Int) + (nb : Int) + (nc : Int) := by omega
  obtain ⟨L, hL, E1, E2, B1, B2⟩ := lasts_crash keep.toNat a b c
  obtain ⟨m1, hm1⟩ : ∃ m, m = min keep.toNat b.length := ⟨_, rfl⟩
  obtain ⟨m2, hm2⟩ : ∃ m, m = min (keep.toNat - min keep.toNat b.length) c.length := ⟨_, rfl⟩
  rw [← hm1] at B1
  rw [← hm2] at B2
  obtain ⟨nx, hnx⟩ : ∃ n, n = na + m1 := ⟨_, rfl⟩
  have hx : (a ++ b.take m1).length = nx := by rw [List.length_append, List.length_take]; omega
  have hy : (c.take m2).length = m2 := by rw [List.length_take]; omega
  have hm1' : m1 ≤ nb := by omega
  have hm2' : m2 ≤ nc := by omega
  have A1 := As.mk (show errV (appCode false 6000 [] 1 na) = .nilIface by rw [appCode_ok (by decide) (by simp [pUsed]; omega)]; rfl)
  have A2 := As.mk (show (if appCode false 6000 [] 1 na = 0 then pAppend 1 a [] else []) = [⟨1, a, 0⟩] by rw [appCode_ok (by decide) (by simp [pUsed]; omega)]; rfl)
  have A3 := As.mk (show errV (appCode false 6000 [⟨1, a, a.length⟩] 1 nb) = .nilIface by rw [appCode_ok (by decide) (by simp [pUsed]; omega)]; rfl)
  have A4 := As.mk (show (if appCode false 6000 [⟨1, a, a.length⟩] 1 nb = 0 then pAppend 1 b [⟨1, a, a.length⟩] else [⟨1, a, a.length⟩]) = [⟨1, a ++ b, a.length⟩] by rw [appCode_ok (by decide) (by simp [pUsed]; omega)]; rfl)
  have A5 := As.mk (show errV (appCode false 6000 [⟨1, a ++ b, a.length⟩] 2 nc) = .nilIface by rw [appCode_ok (by decide) (by simp [pUsed]; omega)]; rfl)
  have A6 := As.mk (show (if appCode false 6000 [⟨1, a ++ b, a.length⟩] 2 nc = 0 then pAppend 2 c [⟨1, a ++ b, a.length⟩] else [⟨1, a ++ b, a.length⟩]) = [⟨1, a ++ b, a.length⟩, ⟨2, c, 0⟩] by rw [appCode_ok (by decide) (by simp [pUsed]; omega)]; rfl)
  have A7 := As.mk (show errV (partCode false L 1) = .nilIface by rw [E1]; rfl)
  have A8 := As.mk (show errV (partCode false L 2) = .nilIface by rw [E2]; rfl)
  have A9 := As.mk (show (if partCode false L 1 = 0 then pBytes L 1 else []) = a ++ b.take m1 by rw [if_pos E1, B1])
  have A10 := As.mk (show (if partCode false L 2 = 0 then pBytes L 2 else []) = c.take m2 by rw [if_pos E2, B2])
  have HL := As.mk hL
  have HA := As.mk ha
  have HB := As.mk hbl
  have HC := As.mk hcl
  have RA := As.mk ra
  have RB := As.mk rb
  have RC := As.mk rc
  have HX := As.mk hx
  have HY := As.mk hy
  have M := As.mk (And.intro hm1 (And.intro hm2 hnx))
  have hx1 : ¬ (nx : Int) < (na : Int) := by omega
  have hx2 : ¬ (na : Int) + (nb : Int) < (nx : Int) := by omega
  have hy1 : ¬ (nc : Int) < (m2 : Int) := by omega
  have hd : (nx : Int) - (na : Int) = (m1 : Int) := by omega
  have hnxb : nx ≤ 5000 := by omega
  clear hL E1 E2 B1 B2 hm1 hm2 hnx ha hbl hcl ra rb rc hx hy
  obtain ⟨SA, hSA⟩ : ∃ T : ByteArray, (⟨a.toArray⟩ : ByteArray) = T := ⟨_, rfl⟩
  obtain ⟨SB, hSB⟩ : ∃ T : ByteArray, (⟨(b.take m1).toArray⟩ : ByteArray) = T := ⟨_, rfl⟩
  obtain ⟨SC, hSC⟩ : ∃ T : ByteArray, (⟨(c.take m2).toArray⟩ : ByteArray) = T := ⟨_, rfl⟩
  have hSX : (⟨(a ++ b.take m1).toArray⟩ : ByteArray) = SA ++ SB := by
    rw [← hSA, ← hSB]
    apply ByteArray.ext; simp
  have hZ : ¬ 9223372036854775807 < SA.size + SB.size := by
    have e1 : SA.size = a.length := by rw [← hSA]; rfl
    have e2 : SB.size = (b.take m1).length := by rw [← hSB]; rfl
    have := HA.out
    have := HB.out
    rw [e1, e2, List.length_take]; omega
  have SS := As.mk (And.intro hSA (And.intro hSB (And.intro hSC hSX)))
  have Z := As.mk hZ
  clear hSA hSB hSC hSX hZ
  have hs1 : (0 : Int) ≤ (m1 : Int) := by omega
  have hs2 : (m1 : Int) ≤ (cb : Int) := by omega
  have hs3 : (0 : Int) ≤ (m2 : Int) := by omega
  have hs4 : (m2 : Int) ≤ (cc : Int) := by omega
  have T1 := As.mk trivial
  have T2 := As.mk trivial
  have T3 := As.mk trivial
  have T4 := As.mk trivial
  go_enter Try.func3, Try.ntmps3
  go_wp2_with (first
    | (go_at_call 6; go_must (refine U.out.mono ?_; rintro e w0 ⟨rfl, hk⟩; have K0 := As.mk hk; clear hk U))
    | (go_at_call 7; go_must (
        refine (disk_new 6000 _ (by decide) (by decide)).mono ?_
        rintro e w1 ⟨d, rfl, hdd, h1, k1⟩
        have D1 := As.mk (h1.mono (D' := Bd w w1) (fun k hk => ⟨Nat.le_trans K0.out.size hk.1, hk.2⟩) (fun k hk => hk.2))
        have K1 := As.mk (K0.out.then_ k1)
        clear h1 k1 K0))
    | (go_at_call 8; have _t := T1; go_must (
        refine (append_at .nilIface [⟨1, a, 0⟩] w1 d _ 6000 false [] D1.out (by decide) 1 (by decide) F Aa na ca a (RA.out.keep K1.out) HA.out (by omega) A1.out A2.out).mono ?_
        rintro e w2 ⟨rfl, h2, k2⟩
        have D2 := As.mk (h2.bd K1.out.size)
        have K2 := As.mk (K1.out.bd k2)
        clear h2 k2 T1 D1 K1))
    | (go_at_call 9; go_must (
        refine (sync_at .nilIface [⟨1, a, a.length⟩] w2 d _ 6000 false _ D2.out 1 (by decide) rfl rfl).mono ?_
        rintro e w3 ⟨rfl, h3, k3⟩
        have D3 := As.mk (h3.bd K2.out.size)
        have K3 := As.mk (K2.out.bd k3)
        clear h3 k3 D2 K2))
    | (go_at_call 8; have _t := T2; go_must (
        refine (append_at .nilIface [⟨1, a ++ b, a.length⟩] w3 d _ 6000 false _ D3.out (by simp) 1 (by decide) F Ab nb cb b (RB.out.keep K3.out) HB.out (by omega) A3.out A4.out).mono ?_
        rintro e w4 ⟨rfl, h4, k4⟩
        have D4 := As.mk (h4.bd K3.out.size)
        have K4 := As.mk (K3.out.bd k4)
        clear h4 k4 T2 D3 K3))
    | (go_at_call 8; have _t := T3; go_must (
        refine (append_at .nilIface [⟨1, a ++ b, a.length⟩, ⟨2, c, 0⟩] w4 d _ 6000 false _ D4.out (by simp) 2 (by decide) F Ac nc cc c (RC.out.keep K4.out) HC.out (by omega) A5.out A6.out).mono ?_
        rintro e w5 ⟨rfl, h5, k5⟩
        have D5 := As.mk (h5.bd K4.out.size)
        have K5 := As.mk (K4.out.bd k5)
        clear h5 k5 T3 D4 K4))
    | (go_at_call 10; go_must (
        refine (crash_at L w5 d _ 6000 false _ D5.out (by simp) keep hk0 hk1 HL.out).mono ?_
        rintro e w6 ⟨rfl, h6, k6⟩
        have D6 := As.mk (h6.bd K5.out.size)
        have K6 := As.mk (K5.out.bd k6)
        clear h6 k6 D5 K5))
    | (go_at_call 11; go_must (
        refine (disk_up w6 d _ 6000 true _ D6.out).mono ?_
        rintro e w7 ⟨rfl, h7, k7⟩
        have D7 := As.mk (h7.bd K6.out.size)
        have K7 := As.mk (K6.out.bd k7)
        clear h7 k7 D6 K6))
    | (go_at_call 12; have _t := T4; go_must (
        refine (read_at .nilIface (a ++ b.take m1) w7 d _ 6000 false _ D7.out 1 (by decide) A7.out A9.out).mono ?_
        rw [HX.out]
        rintro e w8 ⟨Ax, cx, rfl, _, _, r8, k8⟩
        have D8 := As.mk (D7.out.bd_keep k8)
        have K8 := As.mk (K7.out.then_ k8)
        have R8 := As.mk r8
        clear k8 r8 T4 D7 K7))
    | (go_at_call 12; go_must (
        refine (read_at .nilIface (c.take m2) w8 d _ 6000 false _ D8.out 2 (by decide) A8.out A10.out).mono ?_
        rw [HY.out]
        rintro e w9 ⟨Ay, cy, rfl, _, _, r9, k9⟩
        have K9 := As.mk (K8.out.then_ k9)
        have R9 := As.mk (R8.out.keep k9)
        have Q9 := As.mk r9
        clear k9 r9 R8 D8 K8)))
  all_goals
    have hZ := Z.out
    have hw := IntWalk.i64_in ((nx : Int) - (na : Int)) (by omega)
    rw [hd] at hw
    refine wp_region_plan (fun w' => (convert 22 9 (.slice Ax nx cx)).run Try.prog w' = .ok (.string (SA ++ SB)) w' ∧ (convert 22 9 (.slice Aa na ca)).run Try.prog w' = .ok (.string SA) w' ∧ (convert 22 9 (.slice Ab m1 cb)).run Try.prog w' = .ok (.string SB) w' ∧
        (convert 22 9 (.slice Ay m2 cy)).run Try.prog w' = .ok (.string SC) w' ∧ (convert 22 9 (.slice Ac m2 cc)).run Try.prog w' = .ok (.string SC) w' ∧ Kp No w9 w') (by kernel_rfl) ?_
    have hS : (convert 22 9 (.slice Ax nx cx)).run Try.prog w9.drew = .ok (.string (SA ++ SB)) w9.drew ∧ (convert 22 9 (.slice Aa na ca)).run Try.prog w9.drew = .ok (.string SA) w9.drew ∧ (convert 22 9 (.slice Ab m1 cb)).run Try.prog w9.drew = .ok (.string SB) w9.drew ∧
        (convert 22 9 (.slice Ay m2 cy)).run Try.prog w9.drew = .ok (.string SC) w9.drew ∧ (convert 22 9 (.slice Ac m2 cc)).run Try.prog w9.drew = .ok (.string SC) w9.drew ∧ Kp No w9 w9.drew := by
      have k9 := (Kp.refl No w9).drew
      have e1 : (b.take m1).length = m1 := by rw [List.length_take, HB.out]; omega
      have e2 : (c.take m2).length = m2 := HY.out
      exact ⟨conv_of R9.out HX.out SS.out.2.2.2 k9, conv_of RA.out HA.out SS.out.1 (K9.out.then_ k9), conv_of (RB.out.u8_take m1) e1 SS.out.2.1 (K9.out.then_ k9), conv_of Q9.out HY.out SS.out.2.2.1 k9, conv_of (RC.out.u8_take m2) e2 SS.out.2.2.1 (K9.out.then_ k9), k9⟩
    revert hS
    generalize w9.drew = w10
    intro hS
    simp only [lexOf, Nat.reduceAdd, List.size_toArray, List.length_cons, List.length_nil, Array.replicate, List.replicate]
    repeat
      refine plan_take (v := ?_) rfl (by kernel_rfl) (by rfl) hS ?_ ?_
      rotate_left 1
      · intro w hSw; go_simp
        try with_reducible rfl
      simp only [Act.put, List.setIfInBounds_toArray, List.set_cons_zero, List.set_cons_succ]
    refine plan_done (by kernel_rfl) (NoPanic.normal ?_)
    clear hw hZ
    have K10 := As.mk (K9.out.then_ hS.2.2.2.2.2)
    clear hS
  · have hkn : keep < 0 := by assumption
    have f0 : ¬ (0 : Int) < (m1 : Int) + (m2 : Int) := by have := M.out; omega
    have f1 : ((m1 : Int) + (m2 : Int) == 0) = true := by rw [beq_iff_eq]; have := M.out; omega
    have f2 : ((m2 : Int) == 0) = true := by rw [beq_iff_eq]; have := M.out; omega
    go_wp2
    go_ret
    exact ⟨rfl, K10.out⟩
  · have hkn : 0 ≤ keep := by omega
    have f0 : ¬ keep < (m1 : Int) + (m2 : Int) := by have := M.out; omega
    have HM := M.out
    have HB' := HB.out
    have HC' := HC.out
    clear M
    by_cases g1 : (m1 : Int) + (m2 : Int) = keep
    · have f1 : ((m1 : Int) + (m2 : Int) == keep) = true := by rw [beq_iff_eq]; exact g1
      by_cases g2 : m2 = 0
      · have f2 : ((m2 : Int) == 0) = true := by rw [beq_iff_eq]; omega
        clear HM HB' HC' g1 g2
        go_wp2
        go_ret
        exact ⟨rfl, K10.out⟩
      · have f2 : ((m2 : Int) == 0) = false := by rw [beq_eq_false_iff_ne]; omega
        have f3 : ((nx : Int) == (na : Int) + (nb : Int)) = true := by rw [beq_iff_eq]; omega
        clear HM HB' HC' g1 g2
        go_wp2
        go_ret
        exact ⟨rfl, K10.out⟩
    · have f1 : ((m1 : Int) + (m2 : Int) == keep) = false := by rw [beq_eq_false_iff_ne]; exact g1
      have f4 : ((m1 : Int) + (m2 : Int) == (nb : Int) + (nc : Int)) = true := by rw [beq_iff_eq]; omega
      by_cases g2 : m2 = 0
      · have f2 : ((m2 : Int) == 0) = true := by rw [beq_iff_eq]; omega
        clear HM HB' HC' g1 g2
        go_wp2
        go_ret
        exact ⟨rfl, K10.out⟩
      · have f2 : ((m2 : Int) == 0) = false := by rw [beq_eq_false_iff_ne]; omega
        have f3 : ((nx : Int) == (na : Int) + (nb : Int)) = true := by rw [beq_iff_eq]; omega
        clear HM HB' HC' g1 g2
        go_wp2
        go_ret
        exact ⟨rfl, K10.out⟩
end Go.Proofs.Ytnonbimelkagpaa
