/- The disk: Sync, Read, Cut, Remove, over its parts as a list. -/
import Derived.Test.YtnonbimelkagpaaDiskM
namespace Go.Proofs.Ytnonbimelkagpaa
set_option linter.unusedVariables false
set_option linter.unusedSimpArgs false
open Go.RowKit Go.Lib

/-- What 'd.part(n)' says is amiss. -/
def partCode (down : Bool) (L : List Pt) (n : Int) : Nat := if down then 10 else if (pFind n L).isSome then 0 else 4
theorem partCode_bad {down : Bool} {E : List Ent} {n : Int} (h : partCode down (E.map Ent.pt) n ≠ 0) :
    (down = true ∧ ((partCode down (E.map Ent.pt) n : Nat) : Int) = 10) ∨ (down = false ∧ at? (kbs E) n = none ∧ ((partCode down (E.map Ent.pt) n : Nat) : Int) = 4) := by
  unfold partCode at *
  cases down with
  | true => exact .inl ⟨rfl, rfl⟩
  | false =>
    cases hf : E.find? (·.n == n) with
    | none =>
      right
      refine ⟨rfl, by rw [kbs_find, hf]; rfl, ?_⟩
      rw [pFind_map, hf]
      rfl
    | some x =>
      rw [pFind_map, hf] at h
      simp at h
theorem partCode_ok {down : Bool} {E : List Ent} {n : Int} (h : partCode down (E.map Ent.pt) n = 0) : down = false ∧ ∃ x, E.find? (·.n == n) = some x := by
  unfold partCode at h
  cases down with
  | true => simp at h
  | false =>
    cases hf : E.find? (·.n == n) with
    | none => rw [pFind_map, hf] at h; simp at h
    | some x => exact ⟨rfl, x, rfl⟩
theorem errV_pos {c : Nat} (h : c ≠ 0) : errV c = code c := if_neg h

theorem Kp.gr {D : Nat → Prop} {w w1 : World} {S : Nat → Prop} (h : Kp S w w1) (hs : ∀ k, S k → D k) : Kp D w w1 := h.mono fun k _ hk => hs k hk

theorem disk_sync (w : World) (d : Nat) (D : Nat → Prop) (room : Int) (down : Bool) (L : List Pt) (h : Disk w d D room down L) (n : Int) (hn : -9223372036854775808 ≤ n ∧ n ≤ 9223372036854775807) :
    Calls Try.prog 9 #[.pointer (some ⟨d, 0, none⟩), .int .i64 n] w fun e w' => e = .returned (errV (partCode down L n)) ∧ Disk w' d (Gr D w w') room down (if partCode down L n = 0 then pSync n L else L) ∧ Kp D w w' := by
  obtain ⟨E, h1, rfl⟩ := h
  by_cases hc : partCode down (E.map Ent.pt) n = 0
  · obtain ⟨rfl, x, hx⟩ := partCode_ok hc
    obtain ⟨hm, rfl, ha⟩ := find_ent hx
    refine (sync_some w d D room E h1 x hm ha hn).mono ?_
    rintro e w' ⟨rfl, h2, h3⟩
    rw [hc, if_pos rfl]
    have hD : ∀ k, (k = x.pb ∨ x.v.ownBlock = some k) → D k := by
      obtain ⟨mb, _, _, _, _, _, h5, _⟩ := h1
      rintro k (rfl | hk)
      · exact (h5 x hm).1
      · exact (h5 x hm).2.2.1.2 k hk
    exact ⟨rfl, ⟨_, h2, setE_pt h1.sorted h1.pbs hm (fun x => ⟨x.n, x.b, x.b.length⟩) rfl⟩, h3.gr hD⟩
  · refine (sync_none w d D room down E h1 n hn _ (partCode_bad hc)).mono ?_
    rintro e w' ⟨rfl, rfl⟩
    rw [if_neg hc, errV_pos hc]
    exact ⟨rfl, ⟨E, h1.mono (fun k hk => .inl hk) (Gr.lt h1.lt (Nat.le_refl _)), rfl⟩, Kp.refl _ _⟩

/-- What a part reads as. -/
def pBytes (L : List Pt) (n : Int) : List UInt8 := match pFind n L with
  | some x => x.b
  | none => []
theorem disk_read (w : World) (d : Nat) (D : Nat → Prop) (room : Int) (down : Bool) (L : List Pt) (h : Disk w d D room down L) (n : Int) (hn : -9223372036854775808 ≤ n ∧ n ≤ 9223372036854775807) :
    Calls Try.prog 12 #[.pointer (some ⟨d, 0, none⟩), .int .i64 n] w fun e w' => ∃ v l, e = .returned (.tuple #[v, errV (partCode down L n)]) ∧ l = (if partCode down L n = 0 then pBytes L n else []) ∧ Own w' (New w) 5 1 v l.length (u8s l) ∧ Kp No w w' := by
  obtain ⟨E, h1, rfl⟩ := h
  by_cases hc : partCode down (E.map Ent.pt) n = 0
  · obtain ⟨rfl, x, hx⟩ := partCode_ok hc
    obtain ⟨hm, rfl, ha⟩ := find_ent hx
    refine (read_some w d D room E h1 x hm ha hn (by have := le_used hm; have := h1.room_le; omega)).mono ?_
    rintro e w' ⟨v, rfl, h2, h3⟩
    rw [hc, if_pos rfl]
    refine ⟨v, x.b, rfl, ?_, h2, h3⟩
    unfold pBytes
    rw [pFind_map, hx]
    rfl
  · refine (read_none w d D room down E h1 n hn _ (partCode_bad hc)).mono ?_
    rintro e w' ⟨rfl, rfl⟩
    rw [if_neg hc, errV_pos hc]
    exact ⟨_, [], rfl, rfl, Own.nil _ _ _ _, Kp.refl _ _⟩

/-- The head of a row. -/
theorem Own.head {w : World} {F : Nat → Prop} {E sz n m c : Nat} {A : Option Addr} {cs : List Value} (h : Own w F E sz (.slice A n c) n cs) (hm : m ≤ n) : Own w F E sz (.slice A m c) m (cs.take (m * sz)) := by
  have hl : m * sz ≤ n * sz := Nat.mul_le_mul_right _ hm
  refine ⟨⟨by rw [List.length_take, h.len]; omega, ?_⟩, fun k hk => h.2 k (by revert hk; cases A <;> exact id)⟩
  rcases h.1.2 with ⟨he, h0⟩ | ⟨g, cap, cur, he, hb, hh, hc, hcm, hs, hx⟩
  · injection he with e1 e2 e3
    subst e1
    subst e3
    obtain rfl : m = 0 := by omega
    exact .inl ⟨rfl, rfl⟩
  · injection he with e1 e2 e3
    subst e1
    subst e3
    refine .inr ⟨g, c, cur, rfl, hb, hh, by omega, hcm, hs, ?_⟩
    rw [← hx, List.take_take, Nat.min_eq_left hl]

theorem cut_none (w : World) (d : Nat) (D : Nat → Prop) (room : Int) (down : Bool) (E : List Ent) (h : IsDisk w d D room down E) (n k : Int) (hn : -9223372036854775808 ≤ n ∧ n ≤ 9223372036854775807) (c : Int)
    (hc : (down = true ∧ c = 10) ∨ (down = false ∧ at? (kbs E) n = none ∧ c = 4)) :
    Calls Try.prog 16 #[.pointer (some ⟨d, 0, none⟩), .int .i64 n, .int .i64 k] w fun e w' => e = .returned (code c) ∧ w' = w := by
  have P := As.mk (part_any w d D room down E h n hn)
  have e : partOut down (at? (kbs E) n) = .tuple #[.pointer none, code c] := by
    rcases hc with ⟨rfl, rfl⟩ | ⟨rfl, h2, rfl⟩
    · rfl
    · rw [h2]; rfl
  rw [e] at P
  clear h hc e
  unfold code at *
  go_enter Try.func16, Try.ntmps16
  go_wp2_with (go_at_call 33; go_must (refine P.out.mono ?_; rintro e w1 ⟨rfl, rfl⟩))
  go_ret
  exact ⟨rfl, rfl⟩

theorem cut_bad (w : World) (d : Nat) (D : Nat → Prop) (room : Int) (E : List Ent) (h : IsDisk w d D room false E) (x : Ent) (hx : x ∈ E) (ha : at? (kbs E) x.n = some x.pb) (hn : -9223372036854775808 ≤ x.n ∧ x.n ≤ 9223372036854775807) (k : Int)
    (hk : k < 0 ∨ (x.b.length : Int) < k) :
    Calls Try.prog 16 #[.pointer (some ⟨d, 0, none⟩), .int .i64 x.n, .int .i64 k] w fun e w' => e = .returned (code 1) ∧ w' = w := by
  have P := As.mk (part_any w d D room false E h x.n hn)
  have e : partOut false (at? (kbs E) x.n) = .tuple #[.pointer (some ⟨x.pb, 0, none⟩), .nilIface] := by rw [ha]; rfl
  rw [e] at P
  obtain ⟨mb, h1, h2, h3, hlt, h4, h5, h6, h7, h8, h9⟩ := h
  obtain ⟨_, hb, ho, hs⟩ := h5 x hx
  obtain ⟨A, c, hv, hc1, hc2, hr⟩ := ho.read
  rw [hv] at hb
  obtain ⟨c0, c1, fz⟩ := blk2 hb
  clear h1 h2 h3 hlt h4 h5 h6 h7 h8 h9 ho hs hr hc1 hc2 hv hb e
  by_cases h0 : k < 0
  · clear hk
    go_enter Try.func16, Try.ntmps16
    go_wp2_with (go_at_call 33; go_must (refine P.out.mono ?_; rintro e w1 ⟨rfl, rfl⟩))
    go_ret
    exact ⟨rfl, rfl⟩
  · have hk' : (x.b.length : Int) < k := by omega
    have h0' : 0 ≤ k := by omega
    clear hk
    go_enter Try.func16, Try.ntmps16
    go_wp2_with (go_at_call 33; go_must (refine P.out.mono ?_; rintro e w1 ⟨rfl, rfl⟩))
    go_ret
    exact ⟨rfl, rfl⟩

theorem cut_ok (w : World) (d : Nat) (D : Nat → Prop) (room : Int) (E : List Ent) (h : IsDisk w d D room false E) (x : Ent) (hx : x ∈ E) (ha : at? (kbs E) x.n = some x.pb) (hn : -9223372036854775808 ≤ x.n ∧ x.n ≤ 9223372036854775807) (k : Nat) (hk : k ≤ x.b.length) :
    Calls Try.prog 16 #[.pointer (some ⟨d, 0, none⟩), .int .i64 x.n, .int .i64 k] w fun e w' => e = .returned .nilIface ∧ (∃ y : Ent, y.pt = ⟨x.n, x.b.take k, k⟩ ∧ IsDisk w' d (Gr D w w') room false (setE x.pb y E)) ∧ Kp (fun k => k = x.pb ∨ x.v.ownBlock = some k) w w' := by
  have P := As.mk (part_any w d D room false E h x.n hn)
  have e : partOut false (at? (kbs E) x.n) = .tuple #[.pointer (some ⟨x.pb, 0, none⟩), .nilIface] := by rw [ha]; rfl
  rw [e] at P
  have H := As.mk h
  obtain ⟨mb, h1, h2, h3, hlt, h4, h5, h6, h7, h8, h9⟩ := h
  obtain ⟨_, hb, ho, hs⟩ := h5 x hx
  obtain ⟨A, c, hv, hc1, hc2, hr⟩ := ho.read
  have HX := As.mk (And.intro ho (And.intro hb (And.intro h6 h7)))
  rw [hv] at hb
  obtain ⟨c0, c1, fz⟩ := blk2 hb
  have f0 := fz 0
  have f1 := fz 1
  have hlo : (0 : Int) ≤ (k : Int) := by omega
  have hkc : (k : Int) ≤ (c : Int) := by omega
  have hkl : ¬ (x.b.length : Int) < (k : Int) := by omega
  have hk0 : ¬ (k : Int) < 0 := by omega
  have HV := As.mk hv
  clear h1 h2 h3 hlt h4 h5 h6 h7 h8 h9 ho hs hr hc1 hc2 hv hb e fz
  go_enter Try.func16, Try.ntmps16
  go_wp2_with (go_at_call 33; go_must (refine P.out.mono ?_; rintro e w1 ⟨rfl, rfl⟩))
  go_ret
  have K : Kp (fun k => k = x.pb ∨ x.v.ownBlock = some k) w1 ((w1.setCell ⟨x.pb, 0, none⟩ (.slice A k c)).setCell ⟨x.pb, 1, none⟩ (.int .i64 k)) := ((Kp.refl _ w1).setCell (p := ⟨x.pb, 0, none⟩) (.inl (.inl rfl)) _).setCell (p := ⟨x.pb, 1, none⟩) (.inl (.inl rfl)) _
  have hne : ∀ k, x.v.ownBlock = some k → ¬ Is x.pb k := fun k hk he => own_ne HX.out.1 HX.out.2.1 (by decide) (show x.v.ownBlock = some x.pb from (show k = x.pb from he) ▸ hk)
  refine ⟨rfl, ⟨⟨x.n, x.pb, .slice A k c, x.b.take k, k⟩, rfl, H.out.turnPart hx ⟨rfl, rfl⟩ K (by rw [blk_set (blk_set HX.out.2.1 0 _)]; rfl) ?_ ?_ ?_⟩, K⟩
  · have o := HX.out.1
    rw [HV.out] at o
    have o2 := o.only.head hk
    have e1 : (List.take k x.b).length = k := by rw [List.length_take]; omega
    have e2 : u8s (x.b.take k) = (u8s x.b).take (k * 1) := by rw [u8s, u8s, Nat.mul_one, List.map_take]
    show Own _ _ _ _ _ (List.take k x.b).length (u8s (List.take k x.b))
    rw [e1, e2]
    refine (o2.kp (((Kp.refl (Is x.pb) w1).set 0 _).set 1 _) (fun k hk' => hne k (by rw [HV.out]; exact hk'.2))).mono (fun k _ hk' => .inl ?_)
    rw [HV.out]; exact hk'.2
  · show k ≤ (List.take k x.b).length
    rw [List.length_take]; omega
  · have := setE_used (HX.out.2.2.1.imp fun h => h.1) hx (y := ⟨x.n, x.pb, .slice A k c, x.b.take k, k⟩) rfl
    have e1 : (List.take k x.b).length ≤ x.b.length := by rw [List.length_take]; omega
    have := HX.out.2.2.2
    simp only at *
    omega

/-- What 'd.Cut(n, k)' says is amiss. -/
def cutCode (down : Bool) (L : List Pt) (n k : Int) : Nat := if partCode down L n = 0 then if k < 0 ∨ ((pBytes L n).length : Int) < k then 1 else 0 else partCode down L n
theorem disk_cut (w : World) (d : Nat) (D : Nat → Prop) (room : Int) (down : Bool) (L : List Pt) (h : Disk w d D room down L) (n k : Int) (hn : -9223372036854775808 ≤ n ∧ n ≤ 9223372036854775807) :
    Calls Try.prog 16 #[.pointer (some ⟨d, 0, none⟩), .int .i64 n, .int .i64 k] w fun e w' => e = .returned (errV (cutCode down L n k)) ∧ Disk w' d (Gr D w w') room down (if cutCode down L n k = 0 then pCut n k.toNat L else L) ∧ Kp D w w' := by
  obtain ⟨E, h1, rfl⟩ := h
  unfold cutCode
  by_cases hc : partCode down (E.map Ent.pt) n = 0
  · obtain ⟨rfl, x, hx⟩ := partCode_ok hc
    obtain ⟨hm, rfl, ha⟩ := find_ent hx
    have hb : pBytes (E.map Ent.pt) x.n = x.b := by
      unfold pBytes
      rw [pFind_map, hx]
      rfl
    rw [if_pos hc, hb]
    by_cases hk : k < 0 ∨ (x.b.length : Int) < k
    · rw [if_pos hk]
      refine (cut_bad w d D room E h1 x hm ha hn k hk).mono ?_
      rintro e w' ⟨rfl, rfl⟩
      exact ⟨rfl, ⟨E, h1.mono (fun k hk => .inl hk) (Gr.lt h1.lt (Nat.le_refl _)), rfl⟩, Kp.refl _ _⟩
    · rw [if_neg hk]
      obtain ⟨j, rfl⟩ := Int.eq_ofNat_of_zero_le (show 0 ≤ k by omega)
      refine (cut_ok w d D room E h1 x hm ha hn j (by omega)).mono ?_
      rintro e w' ⟨rfl, ⟨y, hy, h2⟩, h3⟩
      have hD : ∀ k, (k = x.pb ∨ x.v.ownBlock = some k) → D k := by
        obtain ⟨mb, _, _, _, _, _, h5, _⟩ := h1
        rintro k (rfl | hk)
        · exact (h5 x hm).1
        · exact (h5 x hm).2.2.1.2 k hk
      exact ⟨rfl, ⟨_, h2, setE_pt h1.sorted h1.pbs hm (fun x => ⟨x.n, x.b.take j, j⟩) hy⟩, h3.gr hD⟩
  · rw [if_neg hc]
    refine (cut_none w d D room down E h1 n k hn _ (partCode_bad hc)).mono ?_
    rintro e w' ⟨rfl, rfl⟩
    rw [if_neg hc, errV_pos hc]
    exact ⟨rfl, ⟨E, h1.mono (fun k hk => .inl hk) (Gr.lt h1.lt (Nat.le_refl _)), rfl⟩, Kp.refl _ _⟩
end Go.Proofs.Ytnonbimelkagpaa
