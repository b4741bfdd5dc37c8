/- The walk of WireBack: what was written is read as it was, to the end. -/
import Derived.Test.YtadiedcnkookhaaDoorWireF
namespace Go.Proofs.YtadiedcnkookhaaDoor
set_option linter.unusedVariables false
set_option linter.unusedSimpArgs false
open Go.RowKit Go.Lib

/-! ### plain: what was written is read -/
theorem rdGo_num (r : List UInt8) (n : Nat) : ∀ (i acc : Nat), i ≤ 9 → (0 < i → 0 < n) → n * 128 ^ i < 18446744073709551616 → rdGo (num n ++ r) i acc = some (acc + n * 128 ^ i, i + (num n).length) := by
  induction n using Nat.strongRecOn with
  | _ n ih =>
  intro i acc hi h0 hlt
  have h9 : i = 9 → n ≤ 1 := by
    rintro rfl
    have h3 : (128 : Nat) ^ 9 = 9223372036854775808 := by decide
    rw [h3] at hlt
    omega
  by_cases hc : n < 128
  · have hx : (UInt8.ofNat n).toNat = n := UInt8.toNat_ofNat_of_lt' (by show _ < 256; omega)
    rw [num_lt hc, List.singleton_append, rdGo, hx, if_neg (by omega), if_pos hc, Nat.mod_eq_of_lt hc]
    rfl
  · have hx : (UInt8.ofNat (n % 128 + 128)).toNat = n % 128 + 128 := UInt8.toNat_ofNat_of_lt' (by show _ < 256; omega)
    have hi8 : i + 1 ≤ 9 := by omega
    have hm : n / 128 * 128 ^ (i + 1) + n % 128 * 128 ^ i = n * 128 ^ i := by
      rw [Nat.pow_succ, Nat.mul_comm (128 ^ i) 128, ← Nat.mul_assoc, ← Nat.add_mul, Nat.div_add_mod']
    rw [num_ge (n := n) (by omega), List.cons_append, rdGo, hx, if_neg (by omega), if_neg (by omega), ih (n / 128) (by omega) (i + 1) _ hi8 (by omega) (by omega), List.length_cons]
    rw [show (n % 128 + 128) % 128 = n % 128 by omega]
    congr 2
    · omega
    · omega
theorem rNum_at (pre r : List UInt8) (n : Nat) (h : n < 18446744073709551616) : rNum (pre ++ (num n ++ r)) ⟨pre.length, none⟩ = (n, ⟨(pre ++ num n).length, none⟩) := by
  have : rdGo ((pre ++ (num n ++ r)).drop pre.length) 0 0 = some (n, (num n).length) := by
    rw [List.drop_left]
    have := rdGo_num r n 0 0 (by decide) (by omega) (by omega)
    simpa using this
  rw [rNum_some this, List.length_append]
theorem rText_at (pre r s : List UInt8) (h : s.length < 18446744073709551616) : rText (pre ++ (num s.length ++ (s ++ r))) (s.length : Int) ⟨pre.length, none⟩ = (s, ⟨(pre ++ (num s.length ++ s)).length, none⟩) := by
  have h1 := rNum_at pre (s ++ r) s.length h
  have h2 : (pre ++ (num s.length ++ (s ++ r))).drop (pre ++ num s.length).length = s ++ r := by
    rw [← List.append_assoc, List.drop_left]
  have h3 : (pre ++ (num s.length ++ (s ++ r))).length - (pre ++ num s.length).length = (s ++ r).length := by
    have := congrArg List.length h2
    rw [List.length_drop] at this
    exact this
  unfold rText
  rw [h1]
  simp only
  rw [if_neg (by rw [h3, List.length_append]; omega), h2, List.take_left]
  simp only [List.length_append, Nat.add_assoc]

theorem str_back (s : ByteArray) : (⟨s.data.toList.toArray⟩ : ByteArray) = s := by simp
theorem rEnd_at (l : List UInt8) : rEnd l ⟨l.length, none⟩ = ⟨l.length, none⟩ := by simp [rEnd]

/-! ### the walk -/
set_option maxHeartbeats 4000000 in
set_option maxRecDepth 100000 in
theorem wireBack_walk (n : Nat) (z : Int) (s : ByteArray) (m : Nat) (w : World) (hg : ErrVar w) (hn : n < 18446744073709551616) (hz0 : -9223372036854775808 ≤ z) (hz1 : z ≤ 9223372036854775807) (hm : m < 18446744073709551616) (hs0 : s.size ≤ maxLen) :
    Calls Tryd.prog 5 #[.int .u64 (n : Int), .int .i64 z, .string s, .int .u64 (m : Int)] w fun e w' => e = .returned (.bool true) ∧ Kp No w w' := by
  have U := As.mk (up06 w hg)
  clear hg
  by_cases hs : s.size ≤ 2000
  · have hs' : ¬ (2000 : Int) < (s.size : Int) := by omega
    obtain ⟨L1, hL1⟩ : ∃ L, L = [] ++ num n := ⟨_, rfl⟩
    obtain ⟨L2, hL2⟩ : ∃ L, L = L1 ++ num (zig z) := ⟨_, rfl⟩
    obtain ⟨L3, hL3⟩ : ∃ L, L = L2 ++ (num s.size ++ s.data.toList) := ⟨_, rfl⟩
    obtain ⟨L4, hL4⟩ : ∃ L, L = L3 ++ num m := ⟨_, rfl⟩
    have q1 : L1.length ≤ 10 := by have := num_len n hn; rw [hL1]; simpa using this
    have q2 : L2.length ≤ 20 := by have := num_len (zig z) (zig_lt hz0 hz1); rw [hL2, List.length_append]; omega
    have q3 : L3.length ≤ 3000 := by have := num_len s.size (by omega); rw [hL3, List.length_append, List.length_append, size_data]; omega
    have q4 : L4.length ≤ 4000 := by have := num_len m hm; rw [hL4, List.length_append]; omega
    have r1 : rNum L4 ⟨0, none⟩ = (n, ⟨L1.length, none⟩) := by
      have := rNum_at [] (num (zig z) ++ ((num s.size ++ s.data.toList) ++ num m)) n hn
      rw [hL4, hL3, hL2, hL1]; simpa using this
    have r2 : rNum L4 ⟨L1.length, none⟩ = (zig z, ⟨L2.length, none⟩) := by
      have := rNum_at L1 ((num s.size ++ s.data.toList) ++ num m) (zig z) (zig_lt hz0 hz1)
      rw [hL4, hL3, hL2]; simpa using this
    have r3 : rText L4 (s.size : Int) ⟨L2.length, none⟩ = (s.data.toList, ⟨L3.length, none⟩) := by
      have := rText_at L2 (num m) s.data.toList (by rw [size_data]; omega)
      rw [size_data] at this
      rw [hL4, hL3]; simpa using this
    have r4 : rNum L4 ⟨L3.length, none⟩ = (m, ⟨L4.length, none⟩) := by
      have := rNum_at L3 [] m hm
      rw [hL4]; simpa using this
    have r5 := rEnd_at L4
    have hzz := zag_zig (n := z)
    have R1 := As.mk r1
    have R2 := As.mk r2
    have R3 := As.mk r3
    have R4 := As.mk r4
    have R5 := As.mk r5
    have RZ := As.mk hzz
    have HL := As.mk (And.intro hL1 (And.intro hL2 (And.intro hL3 hL4)))
    clear r1 r2 r3 r4 r5 hzz hL1 hL2 hL3 hL4 hs
    go_enter Tryd.func5, Tryd.ntmps5
    go_wp2_with (first
      | (go_at_call 11; go_must (refine U.out.mono ?_; rintro e w1 ⟨rfl, hk⟩; have K1 := As.mk hk; clear hk U)))
    go_wp2_with (go_at_call 12; go_must (
        refine (number_any (fun _ => False) none 0 0 [] n _ (Rd.nil _ _ _) rfl (by decide) hn).mono ?_
        rw [← HL.out.1]
        rintro e w2 ⟨v, rfl, ho, hk⟩
        obtain ⟨A1, c1, rfl, _, _, hr⟩ := ho.read
        have O2 := As.mk hr
        have K2 := As.mk (K1.out.then_ hk)
        clear ho hr hk K1))
    go_wp2_with (first
      | (go_at_call 13; go_must (
        refine (whole_any _ A1 _ c1 L1 z _ O2.out rfl (by omega) hz0 hz1).mono ?_
        rw [← HL.out.2.1]
        rintro e w3 ⟨v, rfl, ho, hk⟩
        obtain ⟨A2, c2, rfl, _, _, hr⟩ := ho.read
        have O3 := As.mk hr
        have K3 := As.mk (K2.out.then_ hk)
        clear ho hr hk K2 O2))
      | (go_at_call 14; go_must (
        refine (text_any _ A2 _ c2 L2 s _ O3.out rfl (by omega) (by omega)).mono ?_
        rw [← HL.out.2.2.1]
        rintro e w4 ⟨v, rfl, ho, hk⟩
        obtain ⟨A3, c3, rfl, _, _, hr⟩ := ho.read
        have O4 := As.mk hr
        have K4 := As.mk (K3.out.then_ hk)
        clear ho hr hk K3 O3)))
    go_wp2_with (go_at_call 12; go_must (
        refine (number_any _ A3 _ c3 L3 m _ O4.out rfl (by omega) hm).mono ?_
        rw [← HL.out.2.2.2]
        rintro e w5 ⟨v, rfl, ho, hk⟩
        obtain ⟨A4, c4, rfl, hc4, _, hr⟩ := ho.read
        have C5 := As.mk hc4
        have O5 := As.mk (hr.mono (G := fun k => k < w5.heap.size) (fun k hk => hk.2))
        have K5 := As.mk (K4.out.then_ hk)
        clear ho hr hk hc4 K4 O4))
    go_wp2_with (go_at_call 18; go_must (
        refine (read_any _ A4 c4 L4 _ O5.out (fun _ h => h) (by omega) C5.out).mono ?_
        rintro e w6 ⟨rfl, hi, hk, hs6⟩
        have I6 := As.mk hi
        have K6 := As.mk (K5.out.then_ hk)
        have S6 := As.mk K5.out.size
        clear hi hk hs6 K5 O5 C5))
    go_wp2_with (go_at_call 20; go_must (
        refine (rnum_any _ _ _ _ _ I6.out).mono ?_
        rw [R1.out]
        rintro e w7 ⟨rfl, hi, hk⟩
        have I7 := As.mk hi
        have K7 := As.mk (K6.out.trans hk (fun k hlt hs => absurd hs (by have := S6.out; show ¬ k = _; omega)))
        clear hi hk I6 K6))
    go_wp2_with (first
      | (go_at_call 22; go_must (
        refine (rwhole_any _ _ _ _ _ I7.out).mono ?_
        rw [R2.out]
        simp only
        rw [RZ.out]
        rintro e w8 ⟨rfl, hi, hk⟩
        have I8 := As.mk hi
        have K8 := As.mk (K7.out.trans hk (fun k hlt hs => absurd hs (by have := S6.out; show ¬ k = _; omega)))
        clear hi hk I7 K7))
      | (go_at_call 24; go_must (
        refine (rtext_any _ _ _ _ _ _ I8.out (by omega)).mono ?_
        rw [R3.out]
        simp only
        rw [str_back]
        rintro e w9 ⟨rfl, hi, hk⟩
        have I9 := As.mk hi
        have K9 := As.mk (K8.out.trans hk (fun k hlt hs => absurd hs (by have := S6.out; show ¬ k = _; omega)))
        clear hi hk I8 K8)))
    go_wp2_with (go_at_call 20; go_must (
        refine (rnum_any _ _ _ _ _ I9.out).mono ?_
        rw [R4.out]
        rintro e w10 ⟨rfl, hi, hk⟩
        have I10 := As.mk hi
        have K10 := As.mk (K9.out.trans hk (fun k hlt hs => absurd hs (by have := S6.out; show ¬ k = _; omega)))
        clear hi hk I9 K9))
    go_wp2_with (go_at_call 26; go_must (
        refine (rend_any _ _ _ _ _ I10.out).mono ?_
        rw [R5.out]
        rintro e w11 ⟨v, rfl, rfl, hi, hk⟩
        have K11 := As.mk (K10.out.trans hk (fun k hlt hs => absurd hs (by have := S6.out; show ¬ k = _; omega)))
        clear hi hk I10 K10))
    go_ret
    exact ⟨rfl, K11.out⟩
  · have hs' : (2000 : Int) < (s.size : Int) := by omega
    go_enter Tryd.func5, Tryd.ntmps5
    go_wp2_with (go_at_call 11; go_must (refine U.out.mono ?_; rintro e w1 ⟨rfl, hk⟩; have K1 := As.mk hk; clear hk U))
    go_ret
    exact ⟨rfl, K1.out⟩
end Go.Proofs.YtadiedcnkookhaaDoor
