/- wire.Reader: what it reads. -/
import Derived.Test.YtnonbimelkagpaaWireA
import Derived.Laws.BitsAllLaws
namespace Go.Proofs.Ytnonbimelkagpaa
set_option linter.unusedVariables false
set_option linter.unusedSimpArgs false
open Go.RowKit Go.Lib

/-! ### plain: what bytes are read as -/
/-- The number that l begins with, i bytes of it read, n so far: the number, and how many bytes it has in all; or none. -/
def rdGo : List UInt8 → Nat → Nat → Option (Nat × Nat)
  | [], _, _ => none
  | x :: r, i, n => if 9 < i ∨ (i = 9 ∧ 1 < x.toNat) ∨ (x.toNat = 0 ∧ 0 < i) then none
    else if x.toNat < 128 then some (n + x.toNat % 128 * 128 ^ i, i + 1) else rdGo r (i + 1) (n + x.toNat % 128 * 128 ^ i)
/-- Where a reader is: the place; amiss at. -/
structure St where
  at_ : Nat
  bad : Option Nat
/-- A number. -/
def rNum (l : List UInt8) (s : St) : Nat × St :=
  match s.bad with
  | some _ => (0, s)
  | none => match rdGo (l.drop s.at_) 0 0 with
    | some (n, k) => (n, ⟨s.at_ + k, none⟩)
    | none => (0, ⟨s.at_, some s.at_⟩)

theorem rdGo_bound : ∀ (l : List UInt8) (i n : Nat), n < 128 ^ i → ∀ m k, rdGo l i n = some (m, k) → m < 18446744073709551616 ∧ k ≤ i + l.length ∧ i < k := by
  intro l
  induction l with
  | nil => intro i n _ m k h; simp [rdGo] at h
  | cons x r ih =>
    intro i n hn m k h
    have hx := x.toNat_lt
    unfold rdGo at h
    split at h
    · cases h
    · rename_i hc
      have h9 : i ≤ 9 := by omega
      have hlt : n + x.toNat % 128 * 128 ^ i < 128 ^ (i + 1) := by
        have h1 : x.toNat % 128 * 128 ^ i ≤ 127 * 128 ^ i := Nat.mul_le_mul_right _ (by omega)
        rw [Nat.pow_succ]; omega
      split at h
      · rename_i hs
        simp only [Option.some.injEq, Prod.mk.injEq] at h
        obtain ⟨rfl, rfl⟩ := h
        refine ⟨?_, by simp only [List.length_cons]; omega, by omega⟩
        rcases Nat.lt_or_ge i 9 with h8 | h8
        · have h2 : 128 ^ (i + 1) ≤ 128 ^ 9 := Nat.pow_le_pow_right (by decide) (by omega)
          have h3 : (128 : Nat) ^ 9 = 9223372036854775808 := by decide
          omega
        · obtain rfl : i = 9 := by omega
          have h3 : (128 : Nat) ^ 9 = 9223372036854775808 := by decide
          have hx1 : x.toNat ≤ 1 := by omega
          rw [h3] at hn ⊢
          omega
      · obtain ⟨a, b, c⟩ := ih _ _ hlt m k h
        exact ⟨a, by simp only [List.length_cons]; omega, by omega⟩

/-! ### the machine's arithmetic -/
theorem shift_or (n x i : Nat) (hn : n < 128 ^ i) (hx : x < 256) (hi : i ≤ 9) (h9 : i = 9 → x ≤ 1) :
    Go.bits .or .u64 (n : Int) (IntKind.u64.wrap (IntKind.u64.wrap (Go.bits .andNot .u8 (x : Int) 128) * 2 ^ (7 * i))) = ((n + x % 128 * 128 ^ i : Nat) : Int) := by
  have h1 : Go.bits .andNot .u8 (x : Int) 128 = ((x % 128 : Nat) : Int) := by
    have := u8_andNot_nat x 128 hx (by decide)
    rw [show ((128 : Nat) : Int) = 128 by rfl] at this
    rw [this, show 255 - 128 = 127 by rfl, nat_mask7]
  have hp : (2 : Int) ^ (7 * i) = ((128 ^ i : Nat) : Int) := by rw [Int.pow_mul]; norm_cast
  have hb : x % 128 * 128 ^ i < 18446744073709551616 ∧ n < 18446744073709551616 := by
    have h3 : (128 : Nat) ^ 9 = 9223372036854775808 := by decide
    have h5 : (128 : Nat) ^ i ≤ 128 ^ 9 := Nat.pow_le_pow_right (by decide) hi
    rcases Nat.lt_or_ge i 9 with h8 | h8
    · have h2 : 128 ^ (i + 1) ≤ 128 ^ 9 := Nat.pow_le_pow_right (by decide) (by omega)
      have h4 : x % 128 * 128 ^ i < 128 * 128 ^ i := Nat.mul_lt_mul_of_pos_right (by omega) (Nat.pow_pos (by decide))
      rw [Nat.pow_succ] at h2
      omega
    · obtain rfl : i = 9 := by omega
      have := h9 rfl
      rw [h3] at hn ⊢
      omega
  rw [h1, show IntKind.u64.wrap ((x % 128 : Nat) : Int) = ((x % 128 : Nat) : Int) by rw [IntKind.wrap_u64]; omega, hp, ← Int.natCast_mul, IntKind.wrap_u64, Int.emod_eq_of_lt (by omega) (by omega), u64_or_nat _ _ hb.2 hb.1, Nat.or_comm, nat_join (7 * i) _ _ (by rw [Nat.pow_mul]; exact Nat.mul_mod_left _ _) (by rw [Nat.pow_mul]; exact hn), Nat.add_comm]

/-! ### the walks -/
/-- A Reader at g: it reads l, which lies in blocks of F, and stands so. -/
def IsR (T : Nat) (w : World) (g : Nat) (F : Nat → Prop) (l : List UInt8) (s : St) : Prop :=
  ∃ (A : Option Addr) (c : Nat) (a p : Int), w.heap[g]? = some (.cells #[.slice A l.length c, .int .i64 a, .bool s.bad.isSome, .int .i64 p] T (0, 0)) ∧ Rd w F A (u8s l) ∧ ¬ F g ∧ l.length ≤ 1000000000 ∧ l.length ≤ c ∧
    (s.bad = none → a = (s.at_ : Int) ∧ s.at_ ≤ l.length) ∧ ∀ q, s.bad = some q → p = (q : Int)

theorem fail_no (g : Nat) (p : Int) (w : World) (h2 : w.cell? ⟨g, 2, none⟩ = some (.bool true)) :
    Calls Try.prog 65 #[.pointer (some ⟨g, 0, none⟩), .int .i64 p] w fun e w' => e = .returned (.tuple #[]) ∧ w' = w := by
  go_enter Try.func65, Try.ntmps65
  go_wp2
  go_end0
  exact ⟨rfl, rfl⟩
theorem fail_yes (g : Nat) (p : Int) (w : World) (u : Value) (h2 : w.cell? ⟨g, 2, none⟩ = some (.bool false)) (h3 : w.cell? ⟨g, 3, none⟩ = some u) (f2 : w.frozen? ⟨g, 2, none⟩ = false) (f3 : w.frozen? ⟨g, 3, none⟩ = false) :
    Calls Try.prog 65 #[.pointer (some ⟨g, 0, none⟩), .int .i64 p] w fun e w' => e = .returned (.tuple #[]) ∧ w' = (w.setCell ⟨g, 2, none⟩ (.bool true)).setCell ⟨g, 3, none⟩ (.int .i64 p) := by
  go_enter Try.func65, Try.ntmps65
  go_wp2
  go_end0
  exact ⟨rfl, rfl⟩

set_option maxHeartbeats 2000000 in
set_option maxRecDepth 100000 in
theorem rnum_bad (g : Nat) (F : Nat → Prop) (l : List UInt8) (a q : Nat) (w : World) (h : IsR 110 w g F l ⟨a, some q⟩) :
    Calls Try.prog 64 #[.pointer (some ⟨g, 0, none⟩)] w fun e w' => e = .returned (.int .u64 0) ∧ w' = w := by
  obtain ⟨A, c, b, p, hb, _⟩ := h
  obtain ⟨_, _, c2, _, _⟩ := blk4 hb
  clear hb
  go_enter Try.func64, Try.ntmps64
  go_wp2
  go_ret
  exact ⟨rfl, rfl⟩

theorem drop_cons {l : List UInt8} {j : Nat} {x : UInt8} (h : l[j]? = some x) : l.drop j = x :: l.drop (j + 1) := by
  obtain ⟨hl, rfl⟩ := List.getElem?_eq_some_iff.1 h
  exact List.drop_eq_getElem_cons hl
theorem rNum_none {l : List UInt8} {a : Nat} (h : rdGo (l.drop a) 0 0 = none) : rNum l ⟨a, none⟩ = (0, ⟨a, some a⟩) := by simp [rNum, h]
theorem rNum_some {l : List UInt8} {a n k : Nat} (h : rdGo (l.drop a) 0 0 = some (n, k)) : rNum l ⟨a, none⟩ = (n, ⟨a + k, none⟩) := by simp [rNum, h]
theorem rdGo_break {l : List UInt8} {j i n : Nat} {x : UInt8} (h : l[j]? = some x) (hb : (i = 9 ∧ 1 < x.toNat) ∨ (x.toNat = 0 ∧ 0 < i)) : rdGo (l.drop j) i n = none := by
  rw [drop_cons h, rdGo, if_pos (.inr hb)]
theorem rdGo_end {l : List UInt8} {j i n : Nat} (h : l.length ≤ j) : rdGo (l.drop j) i n = none := by rw [List.drop_of_length_le h, rdGo]
theorem rdGo_last {l : List UInt8} {j i n : Nat} {x : UInt8} (h : l[j]? = some x) (hi : i ≤ 9) (hb : ¬ ((i = 9 ∧ 1 < x.toNat) ∨ (x.toNat = 0 ∧ 0 < i))) (hx : x.toNat < 128) : rdGo (l.drop j) i n = some (n + x.toNat % 128 * 128 ^ i, i + 1) := by
  rw [drop_cons h, rdGo, if_neg (by omega), if_pos hx]
theorem rdGo_more {l : List UInt8} {j i n : Nat} {x : UInt8} (h : l[j]? = some x) (hi : i ≤ 9) (hb : ¬ ((i = 9 ∧ 1 < x.toNat) ∨ (x.toNat = 0 ∧ 0 < i))) (hx : ¬ x.toNat < 128) : rdGo (l.drop j) i n = rdGo (l.drop (j + 1)) (i + 1) (n + x.toNat % 128 * 128 ^ i) := by
  rw [drop_cons h, rdGo, if_neg (by omega), if_neg hx]
theorem isr_fail {T : Nat} {wr w : World} {g : Nat} {F : Nat → Prop} {l : List UInt8} {A : Option Addr} {c : Nat} {a p b : Int} {q r : Nat} (hb : wr.heap[g]? = some (.cells #[.slice A l.length c, .int .i64 a, .bool false, .int .i64 p] T (0, 0)))
    (hK : Kp (Is g) w wr) (hr : Rd w F A (u8s l)) (hF : ¬ F g) (hl : l.length ≤ 1000000000) (hlc : l.length ≤ c) (n : Nat) (hq : b = (q : Int)) :
    IsR T (((wr.drewN n).setCell ⟨g, 2, none⟩ (.bool true)).setCell ⟨g, 3, none⟩ (.int .i64 b)) g F l ⟨r, some q⟩ := by
  have k2 : Kp (Is g) w (((wr.drewN n).setCell ⟨g, 2, none⟩ (.bool true)).setCell ⟨g, 3, none⟩ (.int .i64 b)) := ((hK.drewN n).set 2 _).set 3 _
  have h0 : (wr.drewN n).heap[g]? = some (.cells #[.slice A l.length c, .int .i64 a, .bool false, .int .i64 p] T (0, 0)) := hb
  exact ⟨A, c, a, b, blk_set (blk_set h0 2 _) 3 _, hr.kp k2 (fun k hk he => hF (he ▸ hk)), hF, hl, hlc, (fun h => by cases h), (fun q' h => by injection h with h; rw [← h]; exact hq)⟩

set_option maxHeartbeats 2000000 in
set_option maxRecDepth 100000 in
theorem rnum_any (g : Nat) (F : Nat → Prop) (l : List UInt8) (s : St) (w : World) (h : IsR 110 w g F l s) :
    Calls Try.prog 64 #[.pointer (some ⟨g, 0, none⟩)] w fun e w' => e = .returned (.int .u64 ((rNum l s).1 : Int)) ∧ IsR 110 w' g F l (rNum l s).2 ∧ Kp (Is g) w w' := by
  obtain ⟨at_, bad⟩ := s
  cases bad with
  | some q => exact (rnum_bad g F l at_ q w h).mono fun e w' ⟨he, hw⟩ => ⟨he, hw ▸ h, hw ▸ Kp.refl _ _⟩
  | none =>
    obtain ⟨A, c, a, p, hb, hr, hF, hl, hlc, hs, _⟩ := h
    obtain ⟨rfl, hle⟩ := hs rfl
    have hle' : at_ ≤ l.length := hle
    have B := As.mk hb
    have R := As.mk hr
    obtain ⟨_, c1, c2, _, _⟩ := blk4 hb
    clear hb hr hs hle
    go_enter Try.func64, Try.ntmps64
    go_wp2
    go_loopg [4, 5] 10 (fun k v4 v5 wr => ∃ (i n : Nat) (sh : Int), v4 = .int .u64 (n : Int) ∧ v5 = .int .i64 sh ∧ 0 ≤ sh ∧ sh ≤ 63 ∧ i ≤ 9 ∧ at_ + i ≤ l.length ∧
      As (sh = 7 * (i : Int) ∧ i + k = 10 ∧ n < 128 ^ i ∧ rdGo (l.drop (at_ + i)) i n = rdGo (l.drop at_) 0 0) ∧
      As (wr.heap[g]? = some (.cells #[.slice A l.length c, .int .i64 ((at_ : Int) + (i : Int)), .bool false, .int .i64 p] 110 (0, 0))) ∧ As (Kp (Is g) w wr))
    case atStart => exact ⟨0, 0, 0, rfl, rfl, by omega, by omega, by omega, by omega, ⟨rfl, rfl, by decide, rfl⟩, by simpa using B, ⟨Kp.refl _ _⟩⟩
    case round =>
      clear c1 c2
      obtain ⟨i, n, sh, rfl, rfl, hs0, hs1, hi, hai, HP, B1, K1⟩ := hrel
      obtain ⟨c0, c1, c2, c3, fz⟩ := blk4 B1.out
      by_cases hlt : at_ + i < l.length
      · obtain ⟨x, hx⟩ : ∃ x, l[at_ + i]? = some x := ⟨_, List.getElem?_eq_getElem hlt⟩
        obtain ⟨ad, rfl, _, hcx⟩ := (R.out.kp K1.out (fun k hk he => hF (he ▸ hk))).at_ (u8s_get hx)
        have HX := As.mk hx
        have hxl := x.toNat_lt
        have hltI : (at_ : Int) + (i : Int) < (l.length : Int) := by omega
        clear hx
        go_wp2_with fail
        go_quiet (fail)
        go_wp2_with fail
        go_quiet (fail)
        go_upto_region 10 with (fail)
        obtain ⟨hsh, hgk, hn, hgo⟩ := HP.out
        by_cases hbr : (i = 9 ∧ 1 < x.toNat) ∨ (x.toNat = 0 ∧ 0 < i)
        · have HN := As.mk (rNum_none (hgo.symm.trans (rdGo_break HX.out hbr)))
          have hcs : ((sh == 63) = true ∧ decide (1 < (x.toNat : Int)) = true) ∨ ((sh == 63) = true ∧ decide (1 < (x.toNat : Int)) = false ∧ ((x.toNat : Int) == 0) = true ∧ decide (0 < sh) = true) ∨ ((sh == 63) = false ∧ ((x.toNat : Int) == 0) = true ∧ decide (0 < sh) = true) := by
            simp only [beq_iff_eq, decide_eq_true_eq, decide_eq_false_iff_not, beq_eq_false_iff_ne]; omega
          clear hsh hgk hn hgo hbr
          rcases hcs with ⟨e9, e1⟩ | ⟨e9, e1, e0, ep⟩ | ⟨e9, e0, ep⟩
          all_goals
            go_wp2_with (go_at_call 65; go_must (refine (fail_yes g _ _ (.int .i64 p) ?zq1 ?zq2 ?zq3 ?zq4).mono ?_; (case zq1 => simp [go_sem, c2]); (case zq2 => simp [go_sem, c3]); (case zq3 => simp [go_sem, fz]); (case zq4 => simp [go_sem, fz]); rintro e w1 ⟨rfl, rfl⟩))
            go_ret
            rw [HN.out]
            refine ⟨rfl, ?_, ?_⟩
            · exact isr_fail (wr := (wr.drewN _).setCell ⟨g, 1, none⟩ _) (blk_set (blk_drewN B1.out _) 1 _) ((K1.out.drewN _).set 1 _) R.out hF hl hlc 0 rfl
            · exact (((K1.out.drewN _).set 1 _).set 2 _).set 3 _
        · have hor := shift_or n x.toNat i hn hxl hi (by omega)
          rw [show 7 * i = sh.toNat by omega] at hor
          by_cases h128 : (x.toNat : Int) < 128
          · have HN := As.mk (rNum_some (hgo.symm.trans (rdGo_last HX.out hi hbr (by omega))))
            have hcs : ((sh == 63) = true ∧ decide (1 < (x.toNat : Int)) = false ∧ ((x.toNat : Int) == 0) = false) ∨ ((sh == 63) = false ∧ ((x.toNat : Int) == 0) = true ∧ decide (0 < sh) = false) ∨ ((sh == 63) = false ∧ ((x.toNat : Int) == 0) = false) := by
              simp only [beq_iff_eq, decide_eq_true_eq, decide_eq_false_iff_not, beq_eq_false_iff_ne]; omega
            clear hsh hgk hn hgo hbr
            rcases hcs with ⟨e9, e1, e0⟩ | ⟨e9, e0, ep⟩ | ⟨e9, e0⟩
            all_goals
              go_wp2_with fail
              go_ret
              rw [HN.out]
              exact ⟨rfl, ⟨some ad, c, (at_ : Int) + i + 1, p, blk_set (blk_drewN B1.out _) 1 _, R.out.kp ((K1.out.drewN _).set 1 _) (Is.no hF), hF, hl, hlc, fun _ => ⟨by simp; omega, by simp; omega⟩, (fun q h => by cases h)⟩, (K1.out.drewN _).set 1 _⟩
          · have HG := As.mk ((rdGo_more HX.out hi hbr (by omega)).symm.trans hgo)
            have hi8 : i + 1 ≤ 9 := by omega
            have e9 : (sh == 63) = false := by rw [beq_eq_false_iff_ne]; omega
            have e0 : ((x.toNat : Int) == 0) = false := by rw [beq_eq_false_iff_ne]; omega
            have HP2 : As (sh + 7 = 7 * ((i + 1 : Nat) : Int) ∧ i + 1 + (gk - 1) = 10 ∧ gk - 1 < gk ∧ n + x.toNat % 128 * 128 ^ i < 128 ^ (i + 1)) := ⟨by omega, by omega, by omega, by
              have h1 : x.toNat % 128 * 128 ^ i ≤ 127 * 128 ^ i := Nat.mul_le_mul_right _ (by omega)
              rw [Nat.pow_succ]; omega⟩
            clear hsh hgk hn hgo hbr HP
            go_wp2_with fail
            go_roundg (gk - 1)
            case measure => exact HP2.out.2.2.1
            case rel => exact ⟨i + 1, n + x.toNat % 128 * 128 ^ i, sh + 7, rfl, by go_num, by omega, by have := HP2.out.1; omega, hi8, by omega, ⟨HP2.out.1, HP2.out.2.1, HP2.out.2.2.2, HG.out⟩, ⟨by rw [show (at_ : Int) + ((i + 1 : Nat) : Int) = at_ + i + 1 by omega]; exact blk_set (blk_drewN B1.out _) 1 _⟩, ⟨(K1.out.drewN _).set 1 _⟩⟩
      · have hge : ¬ (at_ : Int) + (i : Int) < (l.length : Int) := by omega
        have HN := As.mk (rNum_none (HP.out.2.2.2.symm.trans (rdGo_end (by omega))))
        clear HP
        go_wp2_with fail
        go_quiet (fail)
        go_wp2_with (go_at_call 65; go_must (refine (fail_yes g _ _ (.int .i64 p) ?zq1 ?zq2 ?zq3 ?zq4).mono ?_; (case zq1 => simp [go_sem, c2]); (case zq2 => simp [go_sem, c3]); (case zq3 => simp [go_sem, fz]); (case zq4 => simp [go_sem, fz]); rintro e w1 ⟨rfl, rfl⟩))
        go_ret
        rw [HN.out]
        exact ⟨rfl, isr_fail B1.out K1.out R.out hF hl hlc _ rfl, ((K1.out.drewN _).set 2 _).set 3 _⟩

/-- The whole number of a number. -/
def zag (n : Nat) : Int := if n % 2 = 1 then -1 - (n / 2 : Nat) else (n / 2 : Nat)
theorem zag_zig {n : Int} : zag (zig n) = n := by unfold zag zig; split <;> split <;> omega
theorem zig_zag (n : Nat) : zig (zag n) = n := by unfold zag zig; split <;> split <;> omega
theorem rNum_lt (l : List UInt8) (s : St) : (rNum l s).1 < 18446744073709551616 := by
  unfold rNum
  split
  · exact Nat.succ_pos _
  · split
    · rename_i h; exact (rdGo_bound _ 0 0 (by decide) _ _ h).1
    · exact Nat.succ_pos _
theorem xor_i64 (n : Nat) (h : n < 9223372036854775808) : Go.bits .xor .i64 (n : Int) (-1) = -1 - (n : Int) ∧ Go.bits .xor .i64 (n : Int) 0 = (n : Int) := by
  have h2 : (BitVec.ofInt 64 (n : Int)).toNat = n := by
    rw [BitVec.ofInt_natCast, BitVec.toNat_ofNat]; exact Nat.mod_eq_of_lt (by omega)
  have h1 : (BitVec.ofInt 64 (-1)).toNat = 2 ^ 64 - 1 := by decide
  have h0 : (BitVec.ofInt 64 0).toNat = 0 := by decide
  constructor
  · show IntKind.i64.wrap ((BitVec.ofInt 64 (n : Int) ^^^ BitVec.ofInt 64 (-1)).toNat : Int) = _
    rw [BitVec.toNat_xor, h1, h2, Nat.xor_comm, Lib.xor_ones64 n (by omega), IntKind.wrap_i64]
    omega
  · show IntKind.i64.wrap ((BitVec.ofInt 64 (n : Int) ^^^ BitVec.ofInt 64 0).toNat : Int) = _
    rw [BitVec.toNat_xor, h0, h2, Nat.xor_zero, IntKind.wrap_i64]
    omega

end Go.Proofs.Ytnonbimelkagpaa
