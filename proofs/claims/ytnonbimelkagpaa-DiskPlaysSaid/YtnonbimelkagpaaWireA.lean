/- wire.Number, Whole, Text: what they write. -/
import Derived.Test.YtnonbimelkagpaaProg
import Derived.Test.YtnonbimelkagpaaKit
import Derived.Lib.Zigzag
namespace Go.Proofs.Ytnonbimelkagpaa
set_option linter.unusedVariables false
set_option linter.unusedSimpArgs false
open Go.RowKit

theorem info8 : (Try.prog.info? 5).map (fun i => (i.zero, i.size, i.bytes)) = some (some (.int .u8 0), 1, 1) := by kernel_rfl

/-- A number's bytes. -/
def num (n : Nat) : List UInt8 := if n < 128 then [UInt8.ofNat n] else UInt8.ofNat (n % 128 + 128) :: num (n / 128)
termination_by n
decreasing_by omega

theorem num_lt {n : Nat} (h : n < 128) : num n = [UInt8.ofNat n] := by rw [num, if_pos h]
theorem num_ge {n : Nat} (h : 128 ≤ n) : num n = UInt8.ofNat (n % 128 + 128) :: num (n / 128) := by rw [num, if_neg (by omega)]
theorem num_len_pow : ∀ k n, n < 128 ^ (k + 1) → (num n).length ≤ k + 1 := by
  intro k
  induction k with
  | zero => intro n h; rw [num_lt (by simpa using h)]; simp
  | succ k ih =>
    intro n h
    by_cases hc : n < 128
    · rw [num_lt hc]; simp
    · rw [num_ge (by omega)]
      have := ih (n / 128) (by rw [Nat.pow_succ] at h; omega)
      simp only [List.length_cons]
      omega
theorem num_len (n : Nat) (h : n < 18446744073709551616) : (num n).length ≤ 10 := num_len_pow 9 n (by omega)
theorem num_pos (n : Nat) : 0 < (num n).length := by
  by_cases hc : n < 128
  · rw [num_lt hc]; simp
  · rw [num_ge (by omega)]; simp
theorem or128 (n : Nat) : Go.bits .or .u8 ((n : Int) % 256) 128 = ((n % 128 + 128 : Nat) : Int) := by
  have h : ∀ a : Fin 256, Go.bits .or .u8 (a.val : Int) 128 = ((a.val % 128 + 128 : Nat) : Int) := by decide +kernel
  have := h ⟨n % 256, by omega⟩
  rw [show ((n : Int) % 256) = ((n % 256 : Nat) : Int) by omega, this]
  congr 1
  show n % 256 % 128 + 128 = _
  omega
theorem u8s_of (k : Nat) (h : k < 256) : u8s [UInt8.ofNat k] = [.int .u8 (k : Int)] := by
  simp [u8s, UInt8.toNat_ofNat_of_lt' h]

set_option maxHeartbeats 1000000 in
set_option maxRecDepth 100000 in
theorem number_any (F : Nat → Prop) (A : Option Addr) (m c : Nat) (l : List UInt8) (x : Nat) (w : World) (hr : Rd w F A (u8s l)) (hl : l.length = m) (hm : m ≤ 1000000000) (hx : x < 18446744073709551616) :
    Calls Try.prog 46 #[.slice A m c, .int .u64 (x : Int)] w fun e w' => ∃ v, e = .returned v ∧ Own w' (New w) 5 1 v (l ++ num x).length (u8s (l ++ num x)) ∧ Kp No w w' := by
  have HR := As.mk hr
  have HL := As.mk hl
  clear hr hl
  go_enter Try.func46, Try.ntmps46
  go_wp2_with (first
    | ((with_reducible refine gate (N := 8) rfl ?_)
       go_must (
       refine app _ rfl _ _ _ rfl 5 _ 1 1 info8 Try.underlying22 rfl (by decide) (.slice (some ⟨w.heap.size, 0, none⟩) 0 0) 0 [] rfl (G := New w) ?zo A m c (u8s l) rfl (F := F) ?zr ?zl (u8s_one l) ?zb ?zc ?_
       case zo => exact ⟨World.ownsRow_lit w #[] 0 (Nat.zero_le _) (by unfold maxLen; omega) rfl, fun k hk => by simp [Value.ownBlock] at hk; unfold New; omega⟩
       case zr => exact HR.out.keep ((Kp.refl _ _).alloc _)
       case zl => rw [u8s_length, HL.out]; omega
       case zb => unfold maxLen; omega
       case zc => omega
       intro v1 w1 o1 g1
       have O := As.mk (o1.mono (G := New w) (fun k _ h => by simp [Value.ownBlock] at h; unfold New; omega))
       have K := As.mk ((Kp.refl No w).alloc _ |>.grown g1 (fun k hk => by simp [Value.ownBlock] at hk; omega))
       clear o1 g1)))
  go_loopw [1, 5] (fun n v wr => ∃ (y : Nat) (pre : List UInt8), n = .int .u64 (y : Int) ∧ y < 18446744073709551616 ∧ As (pre.length + (num y).length ≤ 10 ∧ pre ++ num y = num x) ∧ As (Own wr (New w) 5 1 v (l ++ pre).length (u8s (l ++ pre))) ∧ As (Kp No w wr)) (fun n _ _ => (intOf n).toNat)
  case atStart => exact ⟨x, [], rfl, hx, ⟨by have := num_len x hx; simpa using this, rfl⟩, ⟨by have := O.out; simpa [HL.out] using this⟩, K⟩
  case round =>
    clear O K HR
    obtain ⟨y, pre, rfl, hy, HP, O, K⟩ := hrel
    by_cases hc : (128 : Int) ≤ (y : Int)
    · have hb := or128 y
      go_wp2_with (first
        | ((with_reducible refine gate (N := 18) rfl ?_)
           go_must (
           refine app1 wr rfl _ _ _ rfl 5 _ 1 1 info8 Try.underlying22 rfl (by decide) u5 (l ++ pre).length (u8s (l ++ pre)) rfl O.out #[.int .u8 ((y % 128 + 128 : Nat) : Int)] _ rfl (by simp [Value.oneCell']) rfl K.out (fun _ hk => hk) (fun _ hk => .inr hk) ?zb ?zc ?_
           case zb => have := HP.out.1; have := HL.out; simp only [List.length_append]; unfold maxLen; omega
           case zc => have := HP.out.1; have := HL.out; simp only [List.length_append]; omega
           intro v1 w1 o1 k1 _
           have O1 := As.mk o1
           have K1 := As.mk k1
           clear o1 k1)))
      go_roundw
      case rel => exact ⟨y / 128, pre ++ [UInt8.ofNat (y % 128 + 128)], by go_num, by omega, ⟨by have := HP.out; rw [num_ge (by omega)] at this; simp at this ⊢; omega, by have := HP.out.2; rw [num_ge (by omega)] at this; simpa using this⟩, ⟨by have := O1.out; rw [← u8s_of _ (by omega), ← u8s_append] at this; simpa [Nat.add_assoc] using this⟩, K1⟩
      case measure => simp [intOf]; omega
    · go_wp2_with (first
        | ((with_reducible refine gate (N := 23) rfl ?_)
           go_must (
           refine app1 wr rfl _ _ _ rfl 5 _ 1 1 info8 Try.underlying22 rfl (by decide) u5 (l ++ pre).length (u8s (l ++ pre)) rfl O.out #[.int .u8 (y : Int)] _ rfl (by simp [Value.oneCell']) rfl K.out (fun _ hk => hk) (fun _ hk => .inr hk) ?zb ?zc ?_
           case zb => have := HP.out.1; have := HL.out; simp only [List.length_append]; unfold maxLen; omega
           case zc => have := HP.out.1; have := HL.out; simp only [List.length_append]; omega
           intro v1 w1 o1 k1 _
           have O1 := As.mk o1
           have K1 := As.mk k1
           clear o1 k1)))
      go_ret
      refine ⟨_, rfl, ?_, K1.out⟩
      have h1 := HP.out.2
      rw [num_lt (by omega)] at h1
      have h2 := O1.out
      rw [← u8s_of y (by omega), ← u8s_append] at h2
      rw [← h1]
      simpa [Nat.add_assoc] using h2

/-- A whole number's number. -/
def zig (n : Int) : Nat := if n < 0 then (2 * (-1 - n) + 1).toNat else (2 * n).toNat
theorem zig_lt {n : Int} (h0 : -9223372036854775808 ≤ n) (h1 : n ≤ 9223372036854775807) : zig n < 18446744073709551616 := by unfold zig; split <;> omega
theorem zig_enc (n : Int) (h0 : -9223372036854775808 ≤ n) (h1 : n ≤ 9223372036854775807) : Go.bits .xor .u64 (IntKind.u64.wrap (IntKind.u64.wrap n * 2)) (IntKind.u64.wrap (n / 9223372036854775808)) = ((zig n : Nat) : Int) := by
  unfold zig
  rw [IntKind.wrap_u64, IntKind.wrap_u64, IntKind.wrap_u64]
  split
  · rw [show n % 18446744073709551616 * 2 % 18446744073709551616 = (((2 * n + 18446744073709551616).toNat : Nat) : Int) by omega, show n / 9223372036854775808 % 18446744073709551616 = ((2 ^ 64 - 1 : Nat) : Int) by omega,
      bits_xor_u64_nat _ _ (by omega) (by decide), Nat.xor_comm, Lib.xor_ones64 _ (by omega)]
    omega
  · rw [show n % 18446744073709551616 * 2 % 18446744073709551616 = (((2 * n).toNat : Nat) : Int) by omega, show n / 9223372036854775808 % 18446744073709551616 = ((0 : Nat) : Int) by omega,
      bits_xor_u64_nat _ _ (by omega) (by decide), Nat.xor_zero]

set_option maxHeartbeats 1000000 in
theorem text_any (F : Nat → Prop) (A : Option Addr) (m c : Nat) (l : List UInt8) (s : ByteArray) (w : World) (hr : Rd w F A (u8s l)) (hl : l.length = m) (hm : m ≤ 1000000000) (hs : s.size ≤ 1000000000) :
    Calls Try.prog 40 #[.slice A m c, .string s] w fun e w' => ∃ v, e = .returned v ∧ Own w' (New w) 5 1 v (l ++ (num s.size ++ s.data.toList)).length (u8s (l ++ (num s.size ++ s.data.toList))) ∧ Kp No w w' := by
  have hc := As.mk (number_any F A m c l s.size w hr hl hm (by omega))
  have hn := As.mk (num_len s.size (by omega))
  have hL := As.mk hl
  clear hr hl
  go_enter Try.func40, Try.ntmps40
  go_wp2_with (first
    | (go_at_call 46; go_must (refine hc.out.mono ?_; rintro e w1 ⟨v, rfl, ho, hk⟩; have O := As.mk ho; have K := As.mk hk; clear ho hk hc))
    | ((with_reducible refine gate (N := 11) rfl ?_); go_must (
        refine appStr _ rfl _ _ _ _ rfl 5 info8 Try.underlying22 Try.underlying9 _ (l ++ num s.size).length (u8s (l ++ num s.size)) rfl O.out s rfl K.out (by have := hn.out; have := hL.out; rw [List.length_append]; omega) ?_
        intro v2 w2 o2 k2
        have O2 := As.mk o2
        have K2 := As.mk k2
        clear o2 k2)))
  go_ret
  refine ⟨_, rfl, ?_, K2.out⟩
  have := O2.out
  rw [← u8s_append, List.append_assoc] at this
  simpa [size_data, Nat.add_assoc] using this

theorem own_lit {w : World} {E sz : Nat} (cs : Array Value) (n : Nat) (hs : cs.size = n * sz) (hn : n ≤ 1000000) : Own (w.alloc (.cells cs E)) (New w) E sz (.slice (some ⟨w.heap.size, 0, none⟩) n n) n cs.toList :=
  ⟨World.ownsRow_lit w cs n (Nat.zero_le _) (by unfold maxLen; omega) hs, fun k hk => by simp [Value.ownBlock] at hk; unfold New; omega⟩

end Go.Proofs.Ytnonbimelkagpaa
