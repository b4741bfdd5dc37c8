/- The disk: Remove, Used. -/
import Derived.Test.YtnonbimelkagpaaDiskC
namespace Go.Proofs.Ytnonbimelkagpaa
set_option linter.unusedVariables false
set_option linter.unusedSimpArgs false
open Go.RowKit Go.Lib

theorem remove_none (w : World) (d : Nat) (D : Nat → Prop) (room : Int) (down : Bool) (E : List Ent) (h : IsDisk w d D room down E) (n : Int) (hn : -9223372036854775808 ≤ n ∧ n ≤ 9223372036854775807) (c : Int)
    (hc : (down = true ∧ c = 10) ∨ (down = false ∧ at? (kbs E) n = none ∧ c = 4)) :
    Calls Try.prog 18 #[.pointer (some ⟨d, 0, none⟩), .int .i64 n] w fun e w' => e = .returned (code c) ∧ w' = w := by
  have P := As.mk (part_any w d D room down E h n hn)
  have e : partOut down (at? (kbs E) n) = .tuple #[.pointer none, code c] := by
    rcases hc with ⟨rfl, rfl⟩ | ⟨rfl, h2, rfl⟩
    · rfl
    · rw [h2]; rfl
  rw [e] at P
  clear h hc e
  unfold code at *
  go_enter Try.func18, Try.ntmps18
  go_wp2_with (go_at_call 33; go_must (refine P.out.mono ?_; rintro e w1 ⟨rfl, rfl⟩))
  go_ret
  exact ⟨rfl, rfl⟩

theorem IsDisk.ne_mb {w : World} {d : Nat} {D : Nat → Prop} {room : Int} {down : Bool} {E : List Ent} {mb : Nat} (h1 : w.heap[d]? = some (.cells #[.int .i64 room, .map (some mb), .bool down] 65 (0, 0)))
    (h4 : Mp Try.prog 3 ptrTok w mb (kbs E)) (h5 : ∀ x ∈ E, D x.pb ∧ w.heap[x.pb]? = some (.cells #[x.v, .int .i64 (x.s : Int)] 69 (0, 0)) ∧ Own w D 5 1 x.v x.b.length (u8s x.b) ∧ x.s ≤ x.b.length) :
    d ≠ mb ∧ ∀ x ∈ E, x.pb ≠ mb ∧ x.v.ownBlock ≠ some mb := by
  obtain ⟨_, _, es, clock, hm, _⟩ := h4
  refine ⟨(fun e => by rw [e, hm] at h1; cases h1), (fun x hx => ⟨(fun e => ?_), (fun e => ?_)⟩)⟩
  · have := (h5 x hx).2.1
    rw [e, hm] at this
    cases this
  · rcases (h5 x hx).2.2.1.1.2 with ⟨hv, _⟩ | ⟨g, cap, cur, hv, _, hg, _⟩
    · rw [hv] at e; simp [Value.ownBlock] at e
    · rw [hv] at e; simp [Value.ownBlock] at e
      subst e
      rw [hg] at hm; cases hm

theorem kbs_del (E : List Ent) (n : Int) : del n (kbs E) = kbs (E.filter fun x => !(x.n == n)) := by
  unfold del kbs
  rw [List.filter_map]
  rfl
theorem used_filter (E : List Ent) (p : Ent → Bool) : used (E.filter p) ≤ used E := by
  unfold used
  induction E with
  | nil => exact Nat.le_refl _
  | cons x r ih =>
    rw [List.filter_cons]
    split
    · rw [List.map_cons, List.map_cons, List.sum_cons, List.sum_cons]; omega
    · rw [List.map_cons, List.sum_cons]; omega
/-- The map alone has turned. -/
theorem IsDisk.turnDel {w w1 : World} {d mb : Nat} {D : Nat → Prop} {room : Int} {down : Bool} {E : List Ent} (n : Int) (h : IsDisk w d D room down E)
    (h1 : w.heap[d]? = some (.cells #[.int .i64 room, .map (some mb), .bool down] 65 (0, 0))) (hk : Kp (Is mb) w w1) (hm : Mp Try.prog 3 ptrTok w1 mb (del n (kbs E))) : IsDisk w1 d D room down (E.filter fun x => !(x.n == n)) := by
  obtain ⟨mb', h1', h2, h3, hlt, h4, h5, h6, h7, h8, h9⟩ := h
  have : mb' = mb := by rw [h1] at h1'; simpa using h1'.symm
  subst this
  obtain ⟨n1, n2⟩ := IsDisk.ne_mb h1 h4 h5
  refine ⟨mb', hk.heap h1 n1, h2, h3, fun k hk' => Nat.lt_of_lt_of_le (hlt k hk') hk.size, by rw [← kbs_del]; exact hm, fun x hx => ?_, h6.filter _, ?_, h8, h9⟩
  · have hx := (List.mem_filter.1 hx).1
    obtain ⟨a, b, c, e⟩ := h5 x hx
    refine ⟨a, hk.heap b (n2 x hx).1, (c.only.kp hk (fun k hk' he => ?_)).mono (fun k _ hk' => hk'.1), e⟩
    have he' : k = mb' := he
    exact (n2 x hx).2 (he' ▸ hk'.2)
  · have := used_filter E (fun x => !(x.n == n))
    omega

theorem remove_ok (w : World) (d : Nat) (D : Nat → Prop) (room : Int) (E : List Ent) (h : IsDisk w d D room false E) (n : Int) (x : Ent) (ha : at? (kbs E) n = some x.pb) (hn : -9223372036854775808 ≤ n ∧ n ≤ 9223372036854775807) :
    Calls Try.prog 18 #[.pointer (some ⟨d, 0, none⟩), .int .i64 n] w fun e w' => e = .returned .nilIface ∧ IsDisk w' d D room false (E.filter fun x => !(x.n == n)) ∧ Kp D w w' := by
  have P := As.mk (part_any w d D room false E h n hn)
  have e : partOut false (at? (kbs E) n) = .tuple #[.pointer (some ⟨x.pb, 0, none⟩), .nilIface] := by rw [ha]; rfl
  rw [e] at P
  have H := As.mk h
  obtain ⟨mb, h1, h2, h3, hlt, h4, h5, h6, h7, h8, h9⟩ := h
  obtain ⟨c0, c1, c2, fz⟩ := blk3 h1
  have HM := As.mk (And.intro h1 (And.intro h4 h3))
  clear h1 h2 h3 hlt h4 h5 h6 h7 h8 h9 e
  go_enter Try.func18, Try.ntmps18
  go_wp2_with (first
    | (go_at_call 33; go_must (refine P.out.mono ?_; rintro e w1 ⟨rfl, rfl⟩))
    | (at_delete; go_must (
        refine mp_del rfl _ _ 63 3 rfl 66 ptrTok keyed_int Try.underlying3 Try.underlying63 mb rfl n rfl hn (kbs E) HM.out.2.1 ?_
        intro w2 hm2 hk2
        have M2 := As.mk hm2
        have K2 := As.mk hk2
        clear hm2 hk2)))
  go_ret
  exact ⟨rfl, H.out.turnDel n HM.out.1 K2.out M2.out, K2.out.gr (fun k hk => by rw [show k = mb from hk]; exact HM.out.2.2)⟩

theorem disk_remove (w : World) (d : Nat) (D : Nat → Prop) (room : Int) (down : Bool) (L : List Pt) (h : Disk w d D room down L) (n : Int) (hn : -9223372036854775808 ≤ n ∧ n ≤ 9223372036854775807) :
    Calls Try.prog 18 #[.pointer (some ⟨d, 0, none⟩), .int .i64 n] w fun e w' => e = .returned (errV (partCode down L n)) ∧ Disk w' d (Gr D w w') room down (if partCode down L n = 0 then pDel n L else L) ∧ Kp D w w' := by
  obtain ⟨E, h1, rfl⟩ := h
  by_cases hc : partCode down (E.map Ent.pt) n = 0
  · obtain ⟨rfl, x, hx⟩ := partCode_ok hc
    obtain ⟨hm, rfl, ha⟩ := find_ent hx
    refine (remove_ok w d D room E h1 x.n x ha hn).mono ?_
    rintro e w' ⟨rfl, h2, h3⟩
    rw [hc, if_pos rfl]
    refine ⟨rfl, ⟨_, h2.mono (fun k hk => .inl hk) (Gr.lt h1.lt h3.size), ?_⟩, h3⟩
    unfold pDel
    rw [List.filter_map]
    rfl
  · refine (remove_none w d D room down E h1 n hn _ (partCode_bad hc)).mono ?_
    rintro e w' ⟨rfl, rfl⟩
    rw [if_neg hc, errV_pos hc]
    exact ⟨rfl, ⟨E, h1.mono (fun k hk => .inl hk) (Gr.lt h1.lt (Nat.le_refl _)), rfl⟩, Kp.refl _ _⟩

/-- How many bytes there are in the parts of these. -/
def lenAt (E : List Ent) (pb : Nat) : Nat := match E.find? (·.pb == pb) with
  | some x => x.b.length
  | none => 0
def usedOf (E : List Ent) (l : List (Int × Nat)) : Nat := (l.map fun p => lenAt E p.2).sum
theorem lenAt_of {E : List Ent} (hp : E.Pairwise fun x y => x.pb ≠ y.pb) {x : Ent} (hx : x ∈ E) : lenAt E x.pb = x.b.length := by
  unfold lenAt
  cases hf : E.find? (·.pb == x.pb) with
  | none =>
    have := List.find?_eq_none.1 hf x hx
    simp at this
  | some z =>
    have h1 : z.pb = x.pb := by have := List.find?_some hf; simpa using this
    rw [uniq hp hx (List.mem_of_find?_eq_some hf) h1]
theorem usedOf_all {E : List Ent} (hp : E.Pairwise fun x y => x.pb ≠ y.pb) : usedOf E (kbs E) = used E := by
  unfold usedOf used kbs
  rw [List.map_map]
  congr 1
  refine List.map_congr_left fun x hx => ?_
  exact lenAt_of hp hx
theorem usedOf_del {E : List Ent} {n : Int} {b : Nat} : ∀ {l : List (Int × Nat)}, l.Pairwise (fun p q => p.1 < q.1) → (n, b) ∈ l → usedOf E (del n l) + lenAt E b = usedOf E l
  | [], _, h => by cases h
  | p :: r, hs, h => by
    obtain ⟨h1, h2⟩ := List.pairwise_cons.1 hs
    unfold usedOf del
    rcases List.mem_cons.1 h with rfl | h
    · have hr : r.filter (fun p => !(p.1 == n)) = r := List.filter_eq_self.2 fun p hp => by
        have := h1 p hp
        have : p.1 ≠ n := by simp only at this; omega
        simpa using this
      rw [List.filter_cons_of_neg (by simp), hr, List.map_cons, List.sum_cons]
      simp only
      omega
    · have := h1 _ h
      rw [List.filter_cons_of_pos (by simp only at this; simp; omega), List.map_cons, List.map_cons, List.sum_cons, List.sum_cons]
      have := usedOf_del (E := E) h2 h
      unfold usedOf del at this
      omega
theorem Rg.sorted {P : Program} {k : TypeId} {g : Value → Option Nat} {w : World} {mb r : Nat} {l rest : List (Int × Nat)} {cnt : Nat} (h : Rg P k g w mb r l rest cnt) : rest.Pairwise (fun p q => p.1 < q.1) := by
  obtain ⟨h1, h2, left, h3, rfl⟩ := h
  exact h1.filter _

set_option maxHeartbeats 1000000 in
set_option maxRecDepth 100000 in
theorem used_any (w : World) (d : Nat) (D : Nat → Prop) (room : Int) (down : Bool) (E : List Ent) (h : IsDisk w d D room down E) :
    Calls Try.prog 23 #[.pointer (some ⟨d, 0, none⟩)] w fun e w' => e = .returned (.int .i64 (used E : Int)) ∧ Kp No w w' := by
  have hu := h.room_le
  have hp := As.mk h.pbs
  have hE : ∀ x ∈ E, ∃ A c, w.cell? ⟨x.pb, 0, none⟩ = some (.slice A x.b.length c) := by
    intro x hx
    obtain ⟨mb, _, _, _, _, _, h5, _⟩ := h
    obtain ⟨_, hb, ho, hs⟩ := h5 x hx
    obtain ⟨A, c, hv, _⟩ := ho.read
    rw [hv] at hb
    exact ⟨A, c, (blk2 hb).1⟩
  have HE := As.mk hE
  obtain ⟨mb, h1, h2, h3, hlt, h4, h5, h6, h7, h8, h9⟩ := h
  obtain ⟨c0, c1, c2, fz⟩ := blk3 h1
  have HM := As.mk h4
  have U := As.mk (usedOf_all (hp.out))
  clear h1 h2 h3 hlt h4 h5 h6 hE fz
  go_enter Try.func23, Try.ntmps23
  go_wp2_with (at_range; go_must (
    refine mp_range rfl _ 63 rfl 3 66 ptrTok keyed_int Try.underlying63 mb rfl (kbs E) HM.out ?_
    intro w1 hr1 hk1 hs1
    have R1 := As.mk hr1
    have K1 := As.mk hk1
    clear hr1 hk1 hs1))
  go_frame
  go_loopw [3] (fun n wr => ∃ (more : List (Int × Nat)) (cnt m : Nat), n = .int .i64 (m : Int) ∧ m ≤ 65536 ∧ As (m + usedOf E more = used E) ∧ As (Rg Try.prog 3 ptrTok wr mb w.heap.size (kbs E) more cnt) ∧ As (Kp No w wr)) (fun _ wr => wr.rangeLeft mb w.heap.size)
  case atStart => exact ⟨_, _, 0, rfl, by omega, ⟨by have := U.out; omega⟩, R1, K1⟩
  case round =>
    obtain ⟨more, cnt, m, rfl, hm, EQ, R, K⟩ := hrel
    go_wp2_with (at_next; go_must (refine mp_next rfl _ rfl 3 ptrTok keyed_int Try.underlying3 (fun b => match b with | 0 => .pointer none | b + 1 => .pointer (some ⟨b, 0, none⟩)) ?zinv mb w.heap.size cnt rfl (kbs E) more R.out ?_ ?_))
    case zinv =>
      intro v b hv
      cases b with
      | zero =>
        unfold ptrTok at hv
        split at hv <;> simp_all
      | succ b => exact ptrTok_inv hv
    · intro hz
      have Z := As.mk hz
      clear hz
      go_wp2
      go_ret
      have := EQ.out
      rw [Z.out] at this
      simp [usedOf] at this
      exact ⟨by rw [this]; rfl, K.out⟩
    · intro n b w2 cnt2 hmore hl hr2 hlt2 hk2 hs2 hen
      obtain ⟨x, hx, he⟩ := List.mem_map.1 hl
      injection he with e1 e2
      subst e1
      subst e2
      have hK2 : Kp No w w2 := K.out.trans hk2 (fun k hlt hs => absurd hs (by show ¬ k = _; omega))
      obtain ⟨A, c, hc⟩ := HE.out x hx
      have hcell := hK2.cell hc id
      have hmeas : w2.rangeLeft mb w.heap.size < wr.rangeLeft mb w.heap.size := by rw [hr2.left_eq, R.out.left_eq]; exact hlt2
      have hu2 := usedOf_del (E := E) R.out.sorted hmore
      rw [lenAt_of hp.out hx] at hu2
      have hsum : m + x.b.length ≤ 65536 := by have := EQ.out; omega
      have EQ2 := As.mk (show (m + x.b.length) + usedOf E (del x.n more) = used E by have := EQ.out; omega)
      have R2 := As.mk hr2
      have KK := As.mk hK2
      have MM := As.mk hmeas
      clear hr2 hK2 hmeas hu2 hc hk2 hs2 hlt2 hmore hl EQ R K
      go_wp2
      go_roundw
      case rel => exact ⟨_, _, m + x.b.length, by go_num, hsum, EQ2, R2, KK⟩
      case measure => exact MM.out
end Go.Proofs.Ytnonbimelkagpaa
