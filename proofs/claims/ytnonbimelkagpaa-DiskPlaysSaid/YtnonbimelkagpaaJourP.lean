/- journal, plain: a record's bytes read back; where they are cut off. -/
import Derived.Test.YtnonbimelkagpaaJourA
namespace Go.Proofs.Ytnonbimelkagpaa
set_option linter.unusedVariables false
set_option linter.unusedSimpArgs false
open Go.RowKit Go.Lib

/-- A number that is read is written so. -/
theorem rdGo_canon : ∀ (l : List UInt8) (i acc m k : Nat), rdGo l i acc = some (m, k) → ∃ v, m = acc + v * 128 ^ i ∧ k = i + (num v).length ∧ (0 < i → 0 < v) ∧ (∃ r, l = num v ++ r) := by
  intro l
  induction l with
  | nil => intro i acc m k h; simp [rdGo] at h
  | cons x r ih =>
    intro i acc m k h
    have hx := x.toNat_lt
    unfold rdGo at h
    split at h
    · cases h
    · rename_i hc
      split at h
      · rename_i hs
        simp only [Option.some.injEq, Prod.mk.injEq] at h
        obtain ⟨rfl, rfl⟩ := h
        have e : UInt8.ofNat x.toNat = x := by simp
        refine ⟨x.toNat, by rw [Nat.mod_eq_of_lt hs], by rw [num_lt hs]; rfl, fun hi => by omega, r, by rw [num_lt hs, e]; rfl⟩
      · rename_i hs
        obtain ⟨v, h1, h2, h3, r', h4⟩ := ih _ _ _ _ h
        have hv := h3 (Nat.succ_pos i)
        have e1 : (x.toNat % 128 + 128 * v) / 128 = v := by omega
        have e2 : (x.toNat % 128 + 128 * v) % 128 = x.toNat % 128 := by omega
        have e3 : UInt8.ofNat (x.toNat % 128 + 128) = x := by
          have : x.toNat % 128 + 128 = x.toNat := by omega
          rw [this]; simp
        have hn : num (x.toNat % 128 + 128 * v) = x :: num v := by rw [num_ge (by omega), e1, e2, e3]
        refine ⟨x.toNat % 128 + 128 * v, ?_, ?_, fun _ => by omega, r', by rw [hn, h4]; rfl⟩
        · rw [h1, Nat.add_mul, Nat.pow_succ]
          have : 128 * v * 128 ^ i = v * (128 ^ i * 128) := by rw [Nat.mul_comm 128 v, Nat.mul_assoc, Nat.mul_comm 128]
          omega
        · rw [h2, hn, List.length_cons]; omega
/-- A text that is read: its bytes stand there. -/
theorem rText_canon {l : List UInt8} {s : List UInt8} (h : (rText l 4096 ⟨0, none⟩).1 = s) (h0 : s ≠ []) : ∃ r, l = enc s ++ r ∧ s.length ≤ 4096 := by
  unfold rText rNum at h
  simp only [List.drop_zero] at h
  cases hr : rdGo l 0 0 with
  | none => rw [hr] at h; simp at h; exact absurd h.symm (by simpa using h0)
  | some p =>
    obtain ⟨n, k⟩ := p
    rw [hr] at h
    simp only [Nat.zero_add] at h
    obtain ⟨v, h1, h2, _, r, h4⟩ := rdGo_canon l 0 0 n k hr
    have hv : n = v := by simpa using h1
    have hk : k = (num v).length := by simpa using h2
    split at h
    · exact absurd h.symm (by simpa using h0)
    · rename_i hc
      subst hv
      have hd : l.drop k = r := by rw [h4, hk, List.drop_left]
      have hll : l.length - k = r.length := by rw [h4, hk, List.length_append]; omega
      rw [hll] at hc
      rw [hd] at h
      have hs : s.length = n := by rw [← h, List.length_take]; omega
      refine ⟨r.drop n, ?_, by omega⟩
      unfold enc
      rw [hs, h4, List.append_assoc]
      congr 1
      rw [← h, List.take_append_drop]
theorem recsGo_le {l : List UInt8} : ∀ (f at_ : Nat), at_ ≤ l.length → (recsGo l f at_).2 ≤ l.length
  | 0, at_, h => h
  | f + 1, at_, h => by
    rw [recsGo]
    split
    · exact h
    · split
      · exact h
      · rename_i h1 h2
        obtain ⟨r, e, _⟩ := rText_canon rfl h2
        refine recsGo_le f _ ?_
        have := congrArg List.length e
        rw [List.length_drop, List.length_append] at this
        omega
theorem recsEnd_le (l : List UInt8) : recsEnd l ≤ l.length := recsGo_le _ _ (Nat.zero_le _)
theorem recsGo_count {l : List UInt8} : ∀ (f at_ : Nat), at_ ≤ l.length → (recsGo l f at_).1.length + at_ ≤ (recsGo l f at_).2
  | 0, at_, h => by simp [recsGo]
  | f + 1, at_, h => by
    rw [recsGo]
    split
    · simp
    · split
      · simp
      · rename_i h1 h2
        obtain ⟨r, e, hs⟩ := rText_canon rfl h2
        have hl := congrArg List.length e
        rw [List.length_drop, List.length_append] at hl
        have := recsGo_count (l := l) f (at_ + (enc (rText (l.drop at_) 4096 ⟨0, none⟩).1).length) (by omega)
        have := (enc_len (r := (rText (l.drop at_) 4096 ⟨0, none⟩).1) (by omega)).1
        simp only [List.length_cons]
        omega
theorem recsOf_le (l : List UInt8) : (recsOf l).length ≤ l.length := by
  have h1 := recsGo_count (l := l) l.length 0 (Nat.zero_le _)
  have h2 := recsEnd_le l
  unfold recsEnd at h2
  unfold recsOf
  omega

theorem rdGo_put0 (r : List UInt8) (n : Nat) : ∀ (i acc : Nat), i ≤ 9 → (0 < i → 0 < n) → n * 128 ^ i < 18446744073709551616 → rdGo (num n ++ r) i acc = some (acc + n * 128 ^ i, i + (num n).length) := by
  induction n using Nat.strongRecOn with
  | _ n ih =>
  intro i acc hi h0 hlt
  have h9 : i = 9 → n ≤ 1 := by
    rintro rfl
    have h3 : (128 : Nat) ^ 9 = 9223372036854775808 := by decide
    rw [h3] at hlt
    omega
  by_cases hc : n < 128
  · have hx : (UInt8.ofNat n).toNat = n := UInt8.toNat_ofNat_of_lt' (by show _ < 256; omega)
    rw [num_lt hc, List.singleton_append, rdGo, hx, if_neg (by omega), if_pos hc, Nat.mod_eq_of_lt hc]
    rfl
  · have hx : (UInt8.ofNat (n % 128 + 128)).toNat = n % 128 + 128 := UInt8.toNat_ofNat_of_lt' (by show _ < 256; omega)
    have hi8 : i + 1 ≤ 9 := by omega
    have hm : n / 128 * 128 ^ (i + 1) + n % 128 * 128 ^ i = n * 128 ^ i := by
      rw [Nat.pow_succ, Nat.mul_comm (128 ^ i) 128, ← Nat.mul_assoc, ← Nat.add_mul, Nat.div_add_mod']
    rw [num_ge (n := n) (by omega), List.cons_append, rdGo, hx, if_neg (by omega), if_neg (by omega), ih (n / 128) (by omega) (i + 1) _ hi8 (by omega) (by omega), List.length_cons]
    rw [show (n % 128 + 128) % 128 = n % 128 by omega]
    congr 2
    · omega
    · omega
theorem rdGo_put (r : List UInt8) (n i acc : Nat) (hi : i ≤ 9) (h0 : 0 < i → 0 < n) (h : n * 128 ^ i < 18446744073709551616) : rdGo (num n ++ r) i acc = some (acc + n * 128 ^ i, i + (num n).length) := rdGo_put0 r n i acc hi h0 h
/-- What bytes are read as that are records' and a part of another's. -/
def encs (rs : List (List UInt8)) : List UInt8 := rs.flatMap enc
theorem rText_enc (s r : List UInt8) (h1 : 1 ≤ s.length) (h2 : s.length ≤ 4096) : (rText (enc s ++ r) 4096 ⟨0, none⟩).1 = s := by
  have hn : rdGo (num s.length ++ (s ++ r)) 0 0 = some (s.length, (num s.length).length) := by have := rdGo_put (s ++ r) s.length 0 0 (by decide) (by omega) (by omega); simpa using this
  unfold rText rNum enc
  simp only [List.drop_zero, List.append_assoc, hn, Nat.zero_add]
  rw [if_neg (by simp only [List.length_append]; omega), List.drop_left, List.take_left]
theorem rdGo_short (n : Nat) : ∀ (k i acc : Nat), k < (num n).length → rdGo ((num n).take k) i acc = none := by
  induction n using Nat.strongRecOn with
  | _ n ih =>
  intro k i acc hk
  cases k with
  | zero => simp [rdGo]
  | succ k =>
    by_cases hc : n < 128
    · rw [num_lt hc] at hk; simp at hk
    · rw [num_ge (by omega)] at hk ⊢
      rw [List.take_succ_cons, rdGo]
      have hx : (UInt8.ofNat (n % 128 + 128)).toNat = n % 128 + 128 := UInt8.toNat_ofNat_of_lt' (by show _ < 256; omega)
      rw [hx]
      split
      · rfl
      · rw [if_neg (by omega)]
        exact ih (n / 128) (by omega) k _ _ (by simpa using hk)
theorem rText_short (s : List UInt8) (k : Nat) (hs : s.length ≤ 4096) (hk : k < (enc s).length) : (rText ((enc s).take k) 4096 ⟨0, none⟩).1 = [] := by
  unfold enc at *
  rcases Nat.lt_or_ge k (num s.length).length with h | h
  · have e : (num s.length ++ s).take k = (num s.length).take k := by rw [List.take_append_of_le_length (by omega)]
    rw [e]
    unfold rText rNum
    simp only [List.drop_zero, rdGo_short _ k 0 0 h]
  · have e : (num s.length ++ s).take k = num s.length ++ s.take (k - (num s.length).length) := by
      rw [List.take_append, List.take_of_length_le h]
    rw [e]
    have hn : rdGo (num s.length ++ s.take (k - (num s.length).length)) 0 0 = some (s.length, (num s.length).length) := by
      have := rdGo_put (s.take (k - (num s.length).length)) s.length 0 0 (by decide) (by omega) (by omega)
      simpa using this
    unfold rText rNum
    simp only [List.drop_zero, hn, Nat.zero_add]
    rw [List.length_append] at hk
    rw [if_pos (by simp only [List.length_append, List.length_take]; omega)]
theorem rText_nil : (rText [] 4096 ⟨0, none⟩).1 = [] := by unfold rText rNum; simp [rdGo]
/-- Records, and behind them what is none. -/
theorem recsGo_encs (t : List UInt8) (ht : (rText t 4096 ⟨0, none⟩).1 = []) : ∀ (rs : List (List UInt8)) (p : List UInt8) (f : Nat), (∀ r ∈ rs, 1 ≤ r.length ∧ r.length ≤ 4096) → (encs rs ++ t).length ≤ f → recsGo (p ++ (encs rs ++ t)) f p.length = (rs, p.length + (encs rs).length)
  | [], p, f, _, _ => by
    have : (rText ((p ++ (encs [] ++ t)).drop p.length) 4096 ⟨0, none⟩).1 = [] := by rw [List.drop_left]; simpa [encs] using ht
    rw [recsGo_stop this]
    simp [encs]
  | r :: rs, p, f, h, hf => by
    obtain ⟨h1, h2⟩ := h r (List.mem_cons.2 (.inl rfl))
    have e1 : encs (r :: rs) ++ t = enc r ++ (encs rs ++ t) := by simp [encs, List.append_assoc]
    have hd : (p ++ (encs (r :: rs) ++ t)).drop p.length = enc r ++ (encs rs ++ t) := by rw [List.drop_left, e1]
    have hs : (rText ((p ++ (encs (r :: rs) ++ t)).drop p.length) 4096 ⟨0, none⟩).1 = r := by rw [hd]; exact rText_enc _ _ h1 h2
    have hpos := (enc_len (r := r) (by omega)).1
    have hne : r ≠ [] := by intro e; rw [e] at h1; simp at h1
    rw [e1, List.length_append] at hf
    obtain ⟨g, hg, e2⟩ := recsGo_more (l := p ++ (encs (r :: rs) ++ t)) (f := f) (at_ := p.length) (by rw [List.length_append, e1, List.length_append]; omega) (by rw [List.length_append, e1, List.length_append]; omega) hs hne
    have e3 : p ++ (encs (r :: rs) ++ t) = (p ++ enc r) ++ (encs rs ++ t) := by rw [e1, List.append_assoc]
    have ih := recsGo_encs t ht rs (p ++ enc r) g (fun q hq => h q (List.mem_cons.2 (.inr hq))) (by omega)
    rw [List.length_append] at ih
    rw [e2, e3, ih]
    simp [encs, Nat.add_assoc]
theorem recsOf_encs (t : List UInt8) (ht : (rText t 4096 ⟨0, none⟩).1 = []) (rs : List (List UInt8)) (h : ∀ r ∈ rs, 1 ≤ r.length ∧ r.length ≤ 4096) : recsOf (encs rs ++ t) = rs ∧ recsEnd (encs rs ++ t) = (encs rs).length := by
  have := recsGo_encs t ht rs [] (encs rs ++ t).length h (Nat.le_refl _)
  simp only [List.nil_append, List.length_nil, Nat.zero_add] at this
  unfold recsOf recsEnd
  rw [this]
  exact ⟨rfl, rfl⟩
/-- Cut anywhere, the first records are whole. -/
theorem encs_take : ∀ (rs : List (List UInt8)) (k : Nat), (∀ r ∈ rs, 1 ≤ r.length ∧ r.length ≤ 4096) → ∃ i t, i ≤ rs.length ∧ (encs rs).take k = encs (rs.take i) ++ t ∧ (rText t 4096 ⟨0, none⟩).1 = [] ∧ ∀ m, m ≤ rs.length → (encs (rs.take m)).length ≤ k → m ≤ i
  | [], k, _ => ⟨0, [], Nat.le_refl _, by simp [encs], rText_nil, fun m hm _ => by simpa using hm⟩
  | r :: rs, k, h => by
    obtain ⟨h1, h2⟩ := h r (List.mem_cons.2 (.inl rfl))
    have e1 : encs (r :: rs) = enc r ++ encs rs := by simp [encs]
    rcases Nat.lt_or_ge k (enc r).length with hk | hk
    · refine ⟨0, (enc r).take k, Nat.zero_le _, ?_, rText_short r k h2 hk, fun m hm hl => ?_⟩
      · rw [e1, List.take_append_of_le_length (by omega)]; simp [encs]
      · cases m with
        | zero => exact Nat.le_refl _
        | succ m =>
          have : encs ((r :: rs).take (m + 1)) = enc r ++ encs (rs.take m) := by simp [encs]
          rw [this, List.length_append] at hl
          omega
    · obtain ⟨i, t, hi, he, ht, hm⟩ := encs_take rs (k - (enc r).length) (fun q hq => h q (List.mem_cons.2 (.inr hq)))
      refine ⟨i + 1, t, by simpa using hi, ?_, ht, fun m hml hl => ?_⟩
      · rw [e1, List.take_append, List.take_of_length_le hk, he]; simp [encs, List.append_assoc]
      · cases m with
        | zero => omega
        | succ m =>
          have : encs ((r :: rs).take (m + 1)) = enc r ++ encs (rs.take m) := by simp [encs]
          rw [this, List.length_append] at hl
          have := hm m (by simpa using hml) (by omega)
          omega
end Go.Proofs.Ytnonbimelkagpaa
