/- The walk of WireWrites: the bytes of a number, a whole number and a text, behind any others. -/
import Derived.Test.YtadiedcnkookhaaDoorWireF
import Derived.Test.YtadiedcnkookhaaDoorPlan
namespace Go.Proofs.YtadiedcnkookhaaDoor
set_option linter.unusedVariables false
set_option linter.unusedSimpArgs false
open Go.RowKit Go.Lib

/-- A slice reads as the string t. -/
def Strs (w : World) (v : Value) (t : ByteArray) : Prop := ∀ w', Kp No w w' → (convert 22 9 v).run Tryd.prog w' = .ok (.string t) w'
theorem Strs.of {w : World} {F : Nat → Prop} {A : Option Addr} {n c : Nat} {l : List UInt8} (hr : Rd w F A (u8s l)) (hl : l.length = n) : Strs w (.slice A n c) ⟨l.toArray⟩ :=
  fun w' hk => run_conv_str w' 22 9 5 Tryd.underlying22 Tryd.underlying5 Tryd.underlying9 n c l hl (hr.keep hk)
theorem Strs.keep {w w1 : World} {v : Value} {t : ByteArray} (h : Strs w v t) (hk : Kp No w w1) : Strs w1 v t := fun w' hk' => h w' (hk.then_ hk')

set_option maxHeartbeats 4000000 in
set_option maxRecDepth 100000 in
theorem wireWrites_walk (F : Nat → Prop) (A : Option Addr) (m c : Nat) (l : List UInt8) (n : Nat) (z : Int) (s : ByteArray) (w : World) (hg : ErrVar w) (hr : Rd w F A (u8s l)) (hl : l.length = m) (hn : n < 18446744073709551616) (hz0 : -9223372036854775808 ≤ z) (hz1 : z ≤ 9223372036854775807) (hs0 : s.size ≤ maxLen) :
    Calls Tryd.prog 3 #[.slice A m c, .int .u64 (n : Int), .int .i64 z, .string s] w fun e w' => e = .returned (.bool true) ∧ Kp No w w' := by
  have U := As.mk (up06 w hg)
  clear hg
  have HR := As.mk hr
  have HL := As.mk hl
  clear hr hl
  by_cases hm : m ≤ 2000
  case neg =>
    have hm' : (2000 : Int) < (m : Int) := by omega
    go_enter Tryd.func3, Tryd.ntmps3
    go_wp2_with (first
      | (go_at_call 11; go_must (refine U.out.mono ?_; rintro e w1 ⟨rfl, hk⟩; have K1 := As.mk hk; clear hk U)))
    go_ret
    exact ⟨rfl, K1.out⟩
  by_cases hs : s.size ≤ 2000
  case neg =>
    have hm' : ¬ (2000 : Int) < (m : Int) := by omega
    have hs' : (2000 : Int) < (s.size : Int) := by omega
    go_enter Tryd.func3, Tryd.ntmps3
    go_wp2_with (first
      | (go_at_call 11; go_must (refine U.out.mono ?_; rintro e w1 ⟨rfl, hk⟩; have K1 := As.mk hk; clear hk U)))
    go_ret
    exact ⟨rfl, K1.out⟩
  have hm' : ¬ (2000 : Int) < (m : Int) := by omega
  have hs' : ¬ (2000 : Int) < (s.size : Int) := by omega
  obtain ⟨T0, hT0⟩ : ∃ T : ByteArray, (⟨l.toArray⟩ : ByteArray) = T := ⟨_, rfl⟩
  obtain ⟨N1, hN1⟩ : ∃ T : ByteArray, (⟨(num n).toArray⟩ : ByteArray) = T := ⟨_, rfl⟩
  obtain ⟨N2, hN2⟩ : ∃ T : ByteArray, (⟨(num (zig z)).toArray⟩ : ByteArray) = T := ⟨_, rfl⟩
  obtain ⟨N3, hN3⟩ : ∃ T : ByteArray, (⟨(num s.size ++ s.data.toList).toArray⟩ : ByteArray) = T := ⟨_, rfl⟩
  obtain ⟨T1, hT1⟩ : ∃ T : ByteArray, (⟨(l ++ num n).toArray⟩ : ByteArray) = T := ⟨_, rfl⟩
  obtain ⟨T2, hT2⟩ : ∃ T : ByteArray, (⟨(l ++ num (zig z)).toArray⟩ : ByteArray) = T := ⟨_, rfl⟩
  obtain ⟨T3, hT3⟩ : ∃ T : ByteArray, (⟨(l ++ (num s.size ++ s.data.toList)).toArray⟩ : ByteArray) = T := ⟨_, rfl⟩
  have cat : ∀ a b : List UInt8, (⟨(a ++ b).toArray⟩ : ByteArray) = (⟨a.toArray⟩ : ByteArray) ++ ⟨b.toArray⟩ := fun a b => by
    apply ByteArray.ext; simp
  have hX1 : T0 ++ N1 = T1 := by rw [← hT0, ← hN1, ← hT1]; exact (cat _ _).symm
  have hX2 : T0 ++ N2 = T2 := by rw [← hT0, ← hN2, ← hT2]; exact (cat _ _).symm
  have hX3 : T0 ++ N3 = T3 := by rw [← hT0, ← hN3, ← hT3]; exact (cat _ _).symm
  have hTT := As.mk (And.intro hT0 (And.intro hN1 (And.intro hN2 (And.intro hN3 (And.intro hT1 (And.intro hT2 hT3))))))
  have sz : ∀ a : List UInt8, (⟨a.toArray⟩ : ByteArray).size = a.length := fun a => rfl
  have hZ1 : ¬ 9223372036854775807 < T0.size + N1.size := by
    rw [← hT0, ← hN1, sz, sz]; have := num_len n hn; have := HL.out; omega
  have hZ2 : ¬ 9223372036854775807 < T0.size + N2.size := by
    rw [← hT0, ← hN2, sz, sz]; have := num_len (zig z) (zig_lt hz0 hz1); have := HL.out; omega
  have hZ3 : ¬ 9223372036854775807 < T0.size + N3.size := by
    rw [← hT0, ← hN3, sz, sz, List.length_append, size_data]; have := num_len s.size (by omega); have := HL.out; omega
  have HZ := As.mk (And.intro hX1 (And.intro hX2 (And.intro hX3 (And.intro hZ1 (And.intro hZ2 hZ3)))))
  clear hX1 hX2 hX3 hZ1 hZ2 hZ3 sz
  clear hT0 hN1 hN2 hN3 hT1 hT2 hT3 cat
  go_enter Tryd.func3, Tryd.ntmps3
  go_wp2_with (first
    | (go_at_call 11; go_must (refine U.out.mono ?_; rintro e w1 ⟨rfl, hk⟩; have K1 := As.mk hk; clear hk U))
    | ((with_reducible refine gate (N := 26) rfl ?_); go_must (
        refine app _ rfl _ _ _ rfl 5 _ 1 1 info8 Tryd.underlying22 rfl (by decide) (.slice (some ⟨w1.heap.size, 0, none⟩) 0 0) 0 [] rfl (G := New w1) ?zo A m c (u8s l) rfl (HR.out.keep (K1.out.alloc _)) (by rw [u8s_length, Nat.mul_one]; exact HL.out) (u8s_one _) ?zb ?zc ?_
        case zo => exact own_lit #[] 0 rfl (by decide)
        case zb => unfold maxLen; omega
        case zc => omega
        intro v2 w2 o2 g2
        have K2 := As.mk ((K1.out.alloc _).grown g2 (fun k hk => .inr (by have := K1.out.size; simp [Value.ownBlock] at hk; omega)))
        obtain ⟨A2, c2, rfl, _, _, r2⟩ := o2.read
        have O2 := As.mk r2
        clear o2 g2 r2 K1))
    | (go_at_call 12; go_must (
        refine (number_any _ A2 _ c2 l n _ O2.out (by have := HL.out; omega) (by omega) hn).mono ?_
        rintro e w3 ⟨v3, rfl, o3, k3⟩
        generalize hn3 : (l ++ num n).length = n3 at o3
        have L3 := As.mk hn3
        clear hn3
        obtain ⟨A3, c3, rfl, _, _, r3⟩ := o3.read
        have K3 := As.mk k3
        have O3 := As.mk r3
        clear o3 k3 r3))
    | (go_at_call 13; go_must (
        refine (whole_any _ A2 _ c2 l z _ (O2.out.keep K3.out) (by have := HL.out; omega) (by omega) hz0 hz1).mono ?_
        rintro e w4 ⟨v4, rfl, o4, k4⟩
        generalize hn4 : (l ++ num (zig z)).length = n4 at o4
        have L4 := As.mk hn4
        clear hn4
        obtain ⟨A4, c4, rfl, _, _, r4⟩ := o4.read
        have K4 := As.mk k4
        have O4 := As.mk r4
        clear o4 k4 r4))
    | (go_at_call 14; go_must (
        refine (text_any _ A2 _ c2 l s _ ((O2.out.keep K3.out).keep K4.out) (by have := HL.out; omega) (by omega) (by omega)).mono ?_
        rintro e w5 ⟨v5, rfl, o5, k5⟩
        generalize hn5 : (l ++ (num s.size ++ s.data.toList)).length = n5 at o5
        have L5 := As.mk hn5
        clear hn5
        obtain ⟨A5, c5, rfl, _, _, r5⟩ := o5.read
        have K5 := As.mk k5
        have O5 := As.mk r5
        clear o5 k5 r5)))
  have K := As.mk (((K2.out.then_ K3.out).then_ K4.out).then_ K5.out)
  have SS : ∀ w', Kp No w5 w' → (convert 22 9 (.slice A m c)).run Tryd.prog w' = .ok (.string T0) w' ∧ (convert 22 9 (.slice A2 m c2)).run Tryd.prog w' = .ok (.string T0) w' ∧ (convert 22 9 (.slice A3 n3 c3)).run Tryd.prog w' = .ok (.string T1) w' ∧
      (convert 22 9 (.slice A4 n4 c4)).run Tryd.prog w' = .ok (.string T2) w' ∧ (convert 22 9 (.slice A5 n5 c5)).run Tryd.prog w' = .ok (.string T3) w' ∧ Kp No w5 w' := by
    intro w' hk
    have h345 := (K3.out.then_ K4.out).then_ K5.out
    rw [← hTT.out.1, ← hTT.out.2.2.2.2.1, ← hTT.out.2.2.2.2.2.1, ← hTT.out.2.2.2.2.2.2]
    exact ⟨Strs.of HR.out HL.out w' ((K.out).then_ hk), Strs.of O2.out HL.out w' (h345.then_ hk), Strs.of O3.out L3.out w' ((K4.out.then_ K5.out).then_ hk), Strs.of O4.out L4.out w' (K5.out.then_ hk), Strs.of O5.out L5.out w' hk, hk⟩
  have SS2 := As.mk SS
  clear SS
  refine wp_region_plan (fun w' => (convert 22 9 (.slice A m c)).run Tryd.prog w' = .ok (.string T0) w' ∧ (convert 22 9 (.slice A2 m c2)).run Tryd.prog w' = .ok (.string T0) w' ∧ (convert 22 9 (.slice A3 n3 c3)).run Tryd.prog w' = .ok (.string T1) w' ∧
      (convert 22 9 (.slice A4 n4 c4)).run Tryd.prog w' = .ok (.string T2) w' ∧ (convert 22 9 (.slice A5 n5 c5)).run Tryd.prog w' = .ok (.string T3) w' ∧ Kp No w5 w') (by kernel_rfl) ?_
  have hS := SS2.out _ ((Kp.refl _ _).drew)
  revert hS
  generalize w5.drew = w6
  intro hS
  obtain ⟨hX1, hX2, hX3, hZ1, hZ2, hZ3⟩ := HZ.out
  simp only [lexOf, Nat.reduceAdd, List.size_toArray, List.length_cons, List.length_nil, Array.replicate, List.replicate]
  repeat
    refine plan_take (v := ?_) rfl (by kernel_rfl) (by rfl) hS ?_ ?_
    rotate_left 1
    · intro w hSw; go_simp
      try with_reducible rfl
    simp only [Act.put, List.setIfInBounds_toArray, List.set_cons_zero, List.set_cons_succ]
  refine plan_do rfl (by kernel_rfl) (by rfl) (fun K hK => ?_)
  go_simp
  go_at_call 15
  refine (refNumber_any n _ hn).mono ?_
  rintro e w7 ⟨v7, rfl, o7, kk⟩
  generalize hn7 : (num n).length = n7 at o7
  obtain ⟨A7, c7, rfl, _, _, r7⟩ := o7.read
  have B7 := Strs.of (c := c7) r7 hn7 w7 (Kp.refl _ _)
  rw [hTT.out.2.1] at B7
  replace hS := SS2.out _ (hS.2.2.2.2.2.then_ kk)
  clear o7 r7 hn7 kk
  refine hK.out _ _ hS ?_
  clear K hK
  simp only [Act.put, List.setIfInBounds_toArray, List.set_cons_zero, List.set_cons_succ]
  refine plan_do_at (v := ?_) rfl (by kernel_rfl) (by rfl) hS ?_ ?_
  rotate_left 1
  · go_simp
    try with_reducible rfl
  simp only [Act.put, List.setIfInBounds_toArray, List.set_cons_zero, List.set_cons_succ]
  clear B7
  repeat
    refine plan_take (v := ?_) rfl (by kernel_rfl) (by rfl) hS ?_ ?_
    rotate_left 1
    · intro w hSw; go_simp
      try with_reducible rfl
    simp only [Act.put, List.setIfInBounds_toArray, List.set_cons_zero, List.set_cons_succ]
  refine plan_do rfl (by kernel_rfl) (by rfl) (fun K hK => ?_)
  go_simp
  go_at_call 16
  refine (refWhole_any z _ hz0 hz1).mono ?_
  rintro e w8 ⟨v8, rfl, o8, kk⟩
  generalize hn8 : (num (zig z)).length = n8 at o8
  obtain ⟨A8, c8, rfl, _, _, r8⟩ := o8.read
  have B8 := Strs.of (c := c8) r8 hn8 w8 (Kp.refl _ _)
  rw [hTT.out.2.2.1] at B8
  replace hS := SS2.out _ (hS.2.2.2.2.2.then_ kk)
  clear o8 r8 hn8 kk
  refine hK.out _ _ hS ?_
  clear K hK
  simp only [Act.put, List.setIfInBounds_toArray, List.set_cons_zero, List.set_cons_succ]
  refine plan_do_at (v := ?_) rfl (by kernel_rfl) (by rfl) hS ?_ ?_
  rotate_left 1
  · go_simp
    try with_reducible rfl
  simp only [Act.put, List.setIfInBounds_toArray, List.set_cons_zero, List.set_cons_succ]
  clear B8
  repeat
    refine plan_take (v := ?_) rfl (by kernel_rfl) (by rfl) hS ?_ ?_
    rotate_left 1
    · intro w hSw; go_simp
      try with_reducible rfl
    simp only [Act.put, List.setIfInBounds_toArray, List.set_cons_zero, List.set_cons_succ]
  refine plan_do rfl (by kernel_rfl) (by rfl) (fun K hK => ?_)
  go_simp
  go_at_call 17
  refine (refText_any s _ (by omega)).mono ?_
  rintro e w9 ⟨v9, rfl, o9, kk⟩
  generalize hn9 : (num s.size ++ s.data.toList).length = n9 at o9
  obtain ⟨A9, c9, rfl, _, _, r9⟩ := o9.read
  have B9 := Strs.of (c := c9) r9 hn9 w9 (Kp.refl _ _)
  rw [hTT.out.2.2.2.1] at B9
  replace hS := SS2.out _ (hS.2.2.2.2.2.then_ kk)
  clear o9 r9 hn9 kk
  refine hK.out _ _ hS ?_
  clear K hK
  simp only [Act.put, List.setIfInBounds_toArray, List.set_cons_zero, List.set_cons_succ]
  refine plan_do_at (v := ?_) rfl (by kernel_rfl) (by rfl) hS ?_ ?_
  rotate_left 1
  · go_simp
    try with_reducible rfl
  simp only [Act.put, List.setIfInBounds_toArray, List.set_cons_zero, List.set_cons_succ]
  clear B9
  repeat
    refine plan_take (v := ?_) rfl (by kernel_rfl) (by rfl) hS ?_ ?_
    rotate_left 1
    · intro w hSw; go_simp
      try with_reducible rfl
    simp only [Act.put, List.setIfInBounds_toArray, List.set_cons_zero, List.set_cons_succ]
  refine plan_done (by kernel_rfl) (NoPanic.normal ?_)
  go_wp2
  go_ret
  exact ⟨rfl, K.out.then_ hS.2.2.2.2.2⟩
end Go.Proofs.YtadiedcnkookhaaDoor
