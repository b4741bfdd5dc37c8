/- JournalKeeps, plain: what a journal's disk holds, and what is there behind a crash. -/
import Derived.Test.YtnonbimelkagpaaJourH
import Derived.Test.YtnonbimelkagpaaLasts
namespace Go.Proofs.Ytnonbimelkagpaa
set_option linter.unusedVariables false
set_option linter.unusedSimpArgs false
open Go.RowKit Go.Lib

abbrev Rcs := List (List UInt8)
def Good (R : Rcs) : Prop := ∀ r ∈ R, 1 ≤ r.length ∧ r.length ≤ 1000
def fulls : Nat → List Rcs → List Pt
  | _, [] => []
  | n, g :: r => ⟨(n : Int), encs g, (encs g).length⟩ :: fulls (n + g.length) r
def starts : Nat → List Rcs → List Int
  | _, [] => []
  | n, g :: r => (n : Int) :: starts (n + g.length) r
theorem encs_append (a b : Rcs) : encs (a ++ b) = encs a ++ encs b := by simp [encs]
theorem encs_len (R : Rcs) (h : Good R) : (encs R).length ≤ R.length * 1010 := by
  induction R with
  | nil => simp [encs]
  | cons r R ih =>
    have h1 := h r (List.mem_cons.2 (.inl rfl))
    have := ih (fun q hq => h q (List.mem_cons.2 (.inr hq)))
    have h2 := (enc_len (r := r) (by omega)).2
    have : encs (r :: R) = enc r ++ encs R := by simp [encs]
    rw [this, List.length_append, List.length_cons]
    omega
theorem fulls_snoc (g : Rcs) : ∀ (Gs : List Rcs) (n : Nat), fulls n (Gs ++ [g]) = fulls n Gs ++ [⟨((n + Gs.flatten.length : Nat) : Int), encs g, (encs g).length⟩]
  | [], n => by simp [fulls]
  | h :: r, n => by
    rw [List.cons_append, fulls, fulls_snoc g r, fulls, List.flatten_cons, List.length_append, List.cons_append, Nat.add_assoc]
theorem starts_snoc (g : Rcs) : ∀ (Gs : List Rcs) (n : Nat), starts n (Gs ++ [g]) = starts n Gs ++ [((n + Gs.flatten.length : Nat) : Int)]
  | [], n => by simp [starts]
  | h :: r, n => by
    rw [List.cons_append, starts, starts_snoc g r, starts, List.flatten_cons, List.length_append, List.cons_append, Nat.add_assoc]
theorem fulls_used : ∀ (Gs : List Rcs) (n : Nat), pUsed (fulls n Gs) = (encs Gs.flatten).length
  | [], n => by simp [fulls, pUsed, encs]
  | h :: r, n => by
    have := fulls_used r (n + h.length)
    rw [List.flatten_cons, encs_append, List.length_append, ← this, fulls]
    simp [pUsed]
theorem fulls_lt : ∀ (Gs : List Rcs) (n : Nat), (∀ h ∈ Gs, h ≠ []) → ∀ x ∈ fulls n Gs, x.n < ((n + Gs.flatten.length : Nat) : Int)
  | [], n, _, x, hx => by cases hx
  | h :: r, n, hn, x, hx => by
    have h0 : 0 < h.length := List.length_pos_iff.2 (hn h (List.mem_cons.2 (.inl rfl)))
    rw [fulls] at hx
    rw [List.flatten_cons, List.length_append]
    rcases List.mem_cons.1 hx with rfl | hx
    · show ((n : Nat) : Int) < _
      omega
    · have := fulls_lt r (n + h.length) (fun q hq => hn q (List.mem_cons.2 (.inr hq))) x hx
      omega
theorem fulls_nums : ∀ (Gs : List Rcs) (n : Nat), (fulls n Gs).map (·.n) = starts n Gs
  | [], _ => rfl
  | h :: r, n => by rw [fulls, starts, List.map_cons, fulls_nums r]
theorem fulls_length : ∀ (Gs : List Rcs) (n : Nat), (fulls n Gs).length = Gs.length
  | [], _ => rfl
  | h :: r, n => by rw [fulls, List.length_cons, fulls_length r, List.length_cons]
theorem pIns_end {y : Pt} : ∀ {L : List Pt}, (∀ x ∈ L, x.n < y.n) → pIns y L = L ++ [y]
  | [], _ => rfl
  | x :: r, h => by
    have := h x (List.mem_cons.2 (.inl rfl))
    rw [pIns, if_neg (by omega), pIns_end (fun z hz => h z (List.mem_cons.2 (.inr hz)))]
    rfl
theorem groups_len : ∀ (Gs : List Rcs), (∀ h ∈ Gs, h ≠ []) → Gs.length ≤ Gs.flatten.length
  | [], _ => Nat.le_refl _
  | h :: r, hn => by
    have h0 : 0 < h.length := List.length_pos_iff.2 (hn h (List.mem_cons.2 (.inl rfl)))
    have := groups_len r (fun q hq => hn q (List.mem_cons.2 (.inr hq)))
    rw [List.flatten_cons, List.length_append, List.length_cons]
    omega

/-- Records R in parts of at most m; the first S of them are synced. -/
def KSt (m : Nat) (R : Rcs) (S : Nat) (L : List Pt) (ps : List Int) : Prop :=
  (R = [] ∧ S = 0 ∧ L = [] ∧ ps = []) ∨
  ∃ (Gs : List Rcs) (g : Rcs) (t : Nat), R = Gs.flatten ++ g ∧ g ≠ [] ∧ g.length ≤ m ∧ (∀ h ∈ Gs, h ≠ []) ∧ t ≤ g.length ∧ S ≤ Gs.flatten.length + t ∧
    L = fulls 0 Gs ++ [⟨(Gs.flatten.length : Int), encs g, (encs (g.take t)).length⟩] ∧ ps = starts 0 Gs ++ [(Gs.flatten.length : Int)]
theorem first_of (Gs : List Rcs) : jFirst (starts 0 Gs ++ [(Gs.flatten.length : Int)]) = 0 := by
  cases Gs with
  | nil => rfl
  | cons h r => rfl
theorem KSt.used {m : Nat} {R : Rcs} {S : Nat} {L : List Pt} {ps : List Int} (h : KSt m R S L ps) : pUsed L = (encs R).length := by
  rcases h with ⟨rfl, _, rfl, _⟩ | ⟨Gs, g, t, rfl, _, _, _, _, _, rfl, _⟩
  · rfl
  · have := fulls_used Gs 0
    unfold pUsed at this ⊢
    rw [List.map_append, List.sum_append, this, encs_append, List.length_append]
    simp
theorem KSt.first {m : Nat} {R : Rcs} {S : Nat} {L : List Pt} {ps : List Int} (h : KSt m R S L ps) : jFirst ps = 0 ∧ jNext ps R = R.length := by
  rcases h with ⟨rfl, _, _, rfl⟩ | ⟨Gs, g, t, rfl, _, _, _, _, _, _, rfl⟩
  · exact ⟨rfl, rfl⟩
  · refine ⟨first_of Gs, ?_⟩
    unfold jNext
    rw [first_of, Int.zero_add]
theorem starts_bound : ∀ (Gs : List Rcs) (n : Nat), (∀ p ∈ starts n Gs, 0 ≤ p ∧ p ≤ ((n + Gs.flatten.length : Nat) : Int)) ∧ (starts n Gs).length = Gs.length
  | [], n => ⟨(fun p hp => by cases hp), rfl⟩
  | h :: r, n => by
    obtain ⟨h1, h2⟩ := starts_bound r (n + h.length)
    refine ⟨fun p hp => ?_, by rw [starts, List.length_cons, h2, List.length_cons]⟩
    rw [starts] at hp
    rw [List.flatten_cons, List.length_append]
    rcases List.mem_cons.1 hp with rfl | hp
    · omega
    · have := h1 p hp; omega
theorem KSt.mild {m : Nat} {R : Rcs} {S : Nat} {L : List Pt} {ps : List Int} (h : KSt m R S L ps) (hR : R.length ≤ 30) : Mild ps ∧ L.length ≤ 31 ∧ ∀ x ∈ L, -1000000000000 ≤ x.n ∧ x.n ≤ 1000000000000 := by
  rcases h with ⟨rfl, _, rfl, rfl⟩ | ⟨Gs, g, t, rfl, hg, _, hn, _, _, rfl, rfl⟩
  · exact ⟨⟨by simp, fun p hp => by cases hp⟩, by simp, fun x hx => by cases hx⟩
  · obtain ⟨h1, h2⟩ := starts_bound Gs 0
    have h3 := groups_len Gs hn
    rw [List.length_append] at hR
    refine ⟨⟨by simp [h2]; omega, fun p hp => ?_⟩, by simp [fulls_length]; omega, fun x hx => ?_⟩
    · rcases List.mem_append.1 hp with hp | hp
      · have := h1 p hp; omega
      · rw [List.mem_singleton.1 hp]; omega
    · rcases List.mem_append.1 hx with hx | hx
      · have : x.n ∈ starts 0 Gs := by rw [← fulls_nums]; exact List.mem_map.2 ⟨x, hx, rfl⟩
        have := h1 _ this; omega
      · rw [List.mem_singleton.1 hx]
        show _ ≤ ((Gs.flatten.length : Nat) : Int) ∧ ((Gs.flatten.length : Nat) : Int) ≤ _
        omega
theorem last_of (l : List Int) (p : Int) : jLast (l ++ [p]) = p := by unfold jLast; simp

/-- A sync. -/
theorem KSt.sync {m : Nat} {R : Rcs} {S : Nat} {L : List Pt} {ps : List Int} (h : KSt m R S L ps) (hs : PSorted L) : jsyncCode false L ps = 0 ∧ KSt m R R.length (jsyncL false L ps) ps := by
  rcases h with ⟨rfl, _, rfl, rfl⟩ | ⟨Gs, g, t, rfl, hg, hm, hn, ht, hS, rfl, rfl⟩
  · exact ⟨rfl, .inl ⟨rfl, rfl, rfl, rfl⟩⟩
  · have hf := pFind_mid (L1 := fulls 0 Gs) (r := []) hs
    have hne : starts 0 Gs ++ [(Gs.flatten.length : Int)] ≠ [] := by simp
    have hp : partCode false (fulls 0 Gs ++ [⟨(Gs.flatten.length : Int), encs g, (encs (g.take t)).length⟩]) (jLast (starts 0 Gs ++ [(Gs.flatten.length : Int)])) = 0 := by
      unfold partCode
      rw [last_of, hf]
      rfl
    have hset := pSet_mid (L1 := fulls 0 Gs) (r := []) (x := ⟨(Gs.flatten.length : Int), encs g, (encs (g.take t)).length⟩) (fun x => ⟨x.n, x.b, x.b.length⟩) hs
    unfold jsyncCode jsyncL
    rw [if_neg hne, if_neg hne, if_pos hp]
    refine ⟨hp, .inr ⟨Gs, g, g.length, rfl, hg, hm, hn, Nat.le_refl _, by rw [List.length_append]; exact Nat.le_refl _, ?_, rfl⟩⟩
    rw [last_of, List.take_length]
    exact hset
/-- What an append asks, and what it comes to. -/
theorem KSt.append {m : Nat} {R : Rcs} {S : Nat} {L : List Pt} {ps : List Int} (h : KSt m R S L ps) (hs : PSorted L) (hm1 : 1 ≤ m) (b : List UInt8) (hR : R.length < 30) (hG : Good R) (hb : 1 ≤ b.length ∧ b.length ≤ 1000) :
    ∃ L' ps', KSt m (R ++ [b]) S L' ps' ∧
    ((ps ≠ [] ∧ jNext ps R - jLast ps < m ∧ appCode false 60000 L (jLast ps) (enc b).length = 0 ∧ L' = pAppend (jLast ps) (enc b) L ∧ ps' = ps) ∨
      ((ps = [] ∨ (ps ≠ [] ∧ (m : Int) ≤ jNext ps R - jLast ps)) ∧ jsyncCode false L ps = 0 ∧ (jsyncL false L ps).length < 1000000000 ∧ jNext ps R ∉ ps ∧ appCode false 60000 (jsyncL false L ps) (jNext ps R) (enc b).length = 0 ∧ L' = pAppend (jNext ps R) (enc b) (jsyncL false L ps) ∧ ps' = ps ++ [jNext ps R])) := by
  have henc := (enc_len (r := b) (by omega)).2
  have hRl := encs_len R hG
  obtain ⟨hc0, hk⟩ := h.sync hs
  have hu := h.used
  have hu2 := hk.used
  have hfst := h.first
  have hmild := hk.mild (by omega)
  rcases h with ⟨rfl, rfl, rfl, rfl⟩ | ⟨Gs, g, t, rfl, hg, hgm, hn, ht, hS, hLe, hpe⟩
  · refine ⟨[⟨0, enc b, 0⟩], [0], .inr ⟨[], [b], 0, rfl, by simp, by simp; omega, (fun h hh => by cases hh), Nat.zero_le _, Nat.zero_le _, ?_, rfl⟩, .inr ⟨.inl rfl, rfl, by decide, by simp, ?_, rfl, rfl⟩⟩
    · simp [fulls, encs]
    · exact appCode_ok (by decide) (by show ((enc b).length : Int) ≤ 60000 - (pUsed [] : Nat); simp [pUsed]; omega)
  · have hl : jLast ps = (Gs.flatten.length : Int) := by rw [hpe, last_of]
    have hne : ps ≠ [] := by rw [hpe]; simp
    have hd : jNext ps (Gs.flatten ++ g) - jLast ps = (g.length : Int) := by rw [hfst.2, hl, List.length_append]; omega
    by_cases hgl : g.length < m
    · have hset := pSet_mid (L1 := fulls 0 Gs) (r := []) (x := ⟨(Gs.flatten.length : Int), encs g, (encs (g.take t)).length⟩) (fun x => ⟨x.n, x.b ++ enc b, x.s⟩) (by rw [← hLe]; exact hs)
      have hf := pFind_mid (L1 := fulls 0 Gs) (r := []) (x := ⟨(Gs.flatten.length : Int), encs g, (encs (g.take t)).length⟩) (by rw [← hLe]; exact hs)
      refine ⟨_, ps, .inr ⟨Gs, g ++ [b], t, by simp, by simp, by simp; omega, hn, by simp; omega, hS, ?_, hpe⟩, .inl ⟨hne, by rw [hd]; omega, ?_, rfl, rfl⟩⟩
      · unfold pAppend
        rw [hl, hLe, hf]
        simp only
        rw [hset, encs_append, List.take_append_of_le_length ht]
        simp [encs]
      · rw [hl]
        exact appCode_ok (by omega) (by rw [hu]; omega)
    · have hJ : jsyncL false L ps = fulls 0 (Gs ++ [g]) := by
        unfold jsyncL
        have hp : partCode false L (jLast ps) = 0 := by unfold jsyncCode at hc0; rw [if_neg hne] at hc0; exact hc0
        rw [if_neg hne, if_pos hp, hl, hLe]
        have hset := pSet_mid (L1 := fulls 0 Gs) (r := []) (x := ⟨(Gs.flatten.length : Int), encs g, (encs (g.take t)).length⟩) (fun x => ⟨x.n, x.b, x.b.length⟩) (by rw [← hLe]; exact hs)
        rw [fulls_snoc, Nat.zero_add]
        exact hset
      have hall : ∀ h ∈ Gs ++ [g], h ≠ [] := fun q hq => by
        rcases List.mem_append.1 hq with hq | hq
        · exact hn q hq
        · rw [List.mem_singleton.1 hq]; exact hg
      have hfl : (Gs ++ [g]).flatten = Gs.flatten ++ g := by simp
      have hlt := fulls_lt (Gs ++ [g]) 0 hall
      rw [hfl, Nat.zero_add] at hlt
      have hps2 : ps = starts 0 (Gs ++ [g]) := by rw [starts_snoc, Nat.zero_add, hpe]
      have hni : ((Gs.flatten ++ g).length : Int) ∉ ps := by
        rw [hps2, ← fulls_nums]
        intro hx
        obtain ⟨x, hx, he⟩ := List.mem_map.1 hx
        have := hlt x hx
        omega
      refine ⟨_, _, .inr ⟨Gs ++ [g], [b], 0, by rw [hfl], by simp, by simp; omega, hall, Nat.zero_le _, by rw [hfl, List.length_append]; omega, ?_, ?_⟩, .inr ⟨.inr ⟨hne, by rw [hd]; omega⟩, hc0, by have := hmild.2.1; omega, by rw [hfst.2]; exact hni, ?_, rfl, rfl⟩⟩
      · rw [hfst.2, hJ]
        unfold pAppend
        have hnone : pFind ((Gs.flatten ++ g).length : Int) (fulls 0 (Gs ++ [g])) = none := by
          unfold pFind
          refine List.find?_eq_none.2 fun x hx => ?_
          have := hlt x hx
          simp only [beq_iff_eq]
          omega
        rw [hnone]
        simp only
        rw [pIns_end (y := ⟨((Gs.flatten ++ g).length : Int), enc b, 0⟩) hlt, hfl]
        simp [encs]
      · rw [hfst.2, hps2, hfl]
      · rw [hfst.2]
        exact appCode_ok (by omega) (by rw [hu2]; omega)

/-! ### behind a crash -/
theorem crash_fulls (x : Pt) (k : Nat) : ∀ (Gs : List Rcs) (n : Nat), pCrash k (fulls n Gs ++ [x]) = fulls n Gs ++ [cutPt k x]
  | [], n => by simp [fulls, pCrash]
  | h :: r, n => by
    rw [fulls, List.cons_append, pCrash]
    simp only [Nat.sub_self, Nat.min_zero, Nat.sub_zero]
    rw [crash_fulls x k r]
    simp [cutPt]
theorem recs_full (g : Rcs) (hg : ∀ r ∈ g, 1 ≤ r.length ∧ r.length ≤ 4096) : recsOf (encs g) = g ∧ recsEnd (encs g) = (encs g).length := by
  have := recsOf_encs [] rText_nil g hg
  simpa using this
theorem load_fulls (y : Pt) : ∀ (Gs : List Rcs) (n : Nat) (ps : List Int) (rs : Rcs), (∀ h ∈ Gs, ∀ r ∈ h, 1 ≤ r.length ∧ r.length ≤ 4096) → (ps = [] ∨ jNext ps rs = (n : Int)) → (ps = [] → rs = [] ∧ n = 0) → y.n = ((n + Gs.flatten.length : Nat) : Int) →
    ∃ L', loadGo (fulls n Gs ++ [y]) true ps rs = (L', ps ++ starts n Gs ++ [y.n], rs ++ Gs.flatten ++ recsOf y.b)
  | [], n, ps, rs, _, h1, h2, hy => by
    have hy' : y.n = (n : Int) := by simpa using hy
    refine ⟨[⟨y.n, y.b.take (recsEnd y.b), recsEnd y.b⟩], ?_⟩
    have hc : ¬ (ps ≠ [] ∧ y.n ≠ jNext ps rs) := by
      rintro ⟨h3, h4⟩
      rcases h1 with h1 | h1
      · exact h3 h1
      · exact h4 (by rw [hy', h1])
    rw [fulls, List.nil_append, loadGo, if_neg hc]
    simp [loadGo, starts]
  | h :: r, n, ps, rs, hg, h1, h2, hy => by
    obtain ⟨e1, e2⟩ := recs_full h (hg h (List.mem_cons.2 (.inl rfl)))
    have hc : ¬ (ps ≠ [] ∧ (n : Int) ≠ jNext ps rs) := by
      rintro ⟨h3, h4⟩
      rcases h1 with h1 | h1
      · exact h3 h1
      · exact h4 h1.symm
    have hnext : jNext (ps ++ [(n : Int)]) (rs ++ h) = ((n + h.length : Nat) : Int) := by
      unfold jNext
      rw [List.length_append]
      cases ps with
      | nil =>
        obtain ⟨rfl, rfl⟩ := h2 rfl
        show (0 : Int) + _ = _
        simp
      | cons p q =>
        have h1' : jNext (p :: q) rs = (n : Int) := by
          rcases h1 with h1 | h1
          · cases h1
          · exact h1
        unfold jNext jFirst at h1'
        unfold jFirst
        simp only [List.headD_cons, List.cons_append] at h1' ⊢
        omega
    obtain ⟨L', hL⟩ := load_fulls y r (n + h.length) (ps ++ [(n : Int)]) (rs ++ h) (fun q hq => hg q (List.mem_cons.2 (.inr hq))) (.inr hnext) (fun h => by simp at h) (by rw [hy, List.flatten_cons, List.length_append, Nat.add_assoc])
    refine ⟨⟨(n : Int), (encs h).take (recsEnd (encs h)), recsEnd (encs h)⟩ :: L', ?_⟩
    rw [fulls, List.cons_append, loadGo, if_neg hc, e1, hL]
    simp [starts, List.append_assoc]
theorem KSt.crash {m : Nat} {R : Rcs} {S : Nat} {L : List Pt} {ps : List Int} (h : KSt m R S L ps) (hG : Good R) (hR : R.length ≤ 30) (k : Nat) :
    ∃ (i : Nat) (L' : List Pt) (ps' : List Int), loadGo (pCrash k L) true [] [] = (L', ps', R.take i) ∧ S ≤ i ∧ i ≤ R.length ∧ jFirst ps' = 0 ∧ Mild ps' ∧ (pCrash k L).length ≤ 31 ∧ ∀ x ∈ pCrash k L, -1000000000000 ≤ x.n ∧ x.n ≤ 1000000000000 := by
  have hmild := h.mild hR
  rcases h with ⟨rfl, rfl, rfl, rfl⟩ | ⟨Gs, g, t, rfl, hg, hm, hn, ht, hS, hLe, hpe⟩
  · exact ⟨0, [], [], rfl, Nat.le_refl _, Nat.le_refl _, rfl, ⟨by simp, fun p hp => by cases hp⟩, by simp [pCrash], fun x hx => by simp [pCrash] at hx⟩
  · have hGg : ∀ r ∈ g, 1 ≤ r.length ∧ r.length ≤ 4096 := fun r hr => by have := hG r (List.mem_append.2 (.inr hr)); omega
    have hGs : ∀ h ∈ Gs, ∀ r ∈ h, 1 ≤ r.length ∧ r.length ≤ 4096 := fun h hh r hr => by have := hG r (List.mem_append.2 (.inl (List.mem_flatten.2 ⟨h, hh, hr⟩))); omega
    have hcr := crash_fulls ⟨(Gs.flatten.length : Int), encs g, (encs (g.take t)).length⟩ k Gs 0
    rw [← hLe] at hcr
    obtain ⟨i, tl, hi, he, htl, hmax⟩ := encs_take g ((encs (g.take t)).length + min k ((encs g).length - (encs (g.take t)).length)) hGg
    have hit : t ≤ i := hmax t ht (by omega)
    have hrec : recsOf (encs (g.take i) ++ tl) = g.take i := (recsOf_encs tl htl (g.take i) (fun r hr => hGg r (List.mem_of_mem_take hr))).1
    obtain ⟨L', hL⟩ := load_fulls (cutPt k ⟨(Gs.flatten.length : Int), encs g, (encs (g.take t)).length⟩) Gs 0 [] [] hGs (.inl rfl) (fun _ => ⟨rfl, rfl⟩) (by simp [cutPt])
    have hb : (cutPt k ⟨(Gs.flatten.length : Int), encs g, (encs (g.take t)).length⟩).b = encs (g.take i) ++ tl := he
    rw [hb, hrec, ← hcr] at hL
    have htake : (Gs.flatten ++ g).take (Gs.flatten.length + i) = Gs.flatten ++ g.take i := by rw [List.take_length_add_append]
    have hpsn : (cutPt k ⟨(Gs.flatten.length : Int), encs g, (encs (g.take t)).length⟩).n = (Gs.flatten.length : Int) := rfl
    rw [hpsn] at hL
    simp only [List.nil_append] at hL
    rw [← hpe] at hL
    refine ⟨Gs.flatten.length + i, L', ps, ?_, by omega, by rw [List.length_append]; omega, ?_, hmild.1, ?_, ?_⟩
    · rw [htake, hL]
    · rw [hpe]
      exact first_of Gs
    · rw [pCrash_length]
      exact hmild.2.1
    · intro x hx
      rw [hcr] at hx
      have hx' : x.n ∈ L.map (·.n) := by
        rw [hLe, List.map_append]
        rcases List.mem_append.1 hx with hx | hx
        · exact List.mem_append.2 (.inl (List.mem_map.2 ⟨x, hx, rfl⟩))
        · rw [List.mem_singleton.1 hx]
          exact List.mem_append.2 (.inr (by simp [cutPt]))
      obtain ⟨z, hz, e⟩ := List.mem_map.1 hx'
      rw [← e]
      exact hmild.2.2 z hz
end Go.Proofs.Ytnonbimelkagpaa
