/- The disk: one part turns; Sync. -/
import Derived.Test.YtnonbimelkagpaaDiskP
import Derived.Lib.SliceRun
namespace Go.Proofs.Ytnonbimelkagpaa
set_option linter.unusedVariables false
set_option linter.unusedSimpArgs false
open Go.RowKit Go.Lib

/-- Part n is turned into y. -/
def setE (pb : Nat) (y : Ent) (E : List Ent) : List Ent := E.map fun x => if x.pb = pb then y else x
theorem setE_kbs {pb : Nat} {x y : Ent} {E : List Ent} (hx : x ∈ E) (hp : x.pb = pb) (hy : y.pb = x.pb ∧ y.n = x.n) (hn : E.Pairwise (fun x y => x.pb ≠ y.pb)) : kbs (setE pb y E) = kbs E := by
  unfold kbs setE
  rw [List.map_map]
  refine List.map_congr_left fun z hz => ?_
  show (_, _) = _
  by_cases h : z.pb = pb
  · have hzx : z = x := by
      rcases List.mem_iff_getElem.1 hz with ⟨i, hi, rfl⟩
      rcases List.mem_iff_getElem.1 hx with ⟨j, hj, rfl⟩
      rcases Nat.lt_trichotomy i j with hij | hij | hij
      · exact absurd (h.trans hp.symm) (List.pairwise_iff_getElem.1 hn i j hi hj hij)
      · subst hij; rfl
      · exact absurd (hp.trans h.symm) (List.pairwise_iff_getElem.1 hn j i hj hi hij)
    simp only [Function.comp_def, h, if_true]
    rw [hzx, hy.1, hy.2, hp]
  · simp only [Function.comp_def, h, if_false]
theorem at?_mem_kbs {E : List Ent} {n : Int} {pb : Nat} (h : at? (kbs E) n = some pb) : ∃ x ∈ E, x.n = n ∧ x.pb = pb := by
  have := at?_mem h
  obtain ⟨x, hx, he⟩ := List.mem_map.1 this
  injection he with h1 h2
  exact ⟨x, hx, h1, h2⟩

/-- One part alone has turned (its block, its row; its row may lie in a new block). -/
theorem IsDisk.turnPart {w w1 : World} {d : Nat} {D : Nat → Prop} {room : Int} {down : Bool} {E : List Ent} (h : IsDisk w d D room down E) {x y : Ent} (hx : x ∈ E) (hy : y.pb = x.pb ∧ y.n = x.n)
    (hk : Kp (fun k => k = x.pb ∨ x.v.ownBlock = some k) w w1) (hb : w1.heap[x.pb]? = some (.cells #[y.v, .int .i64 (y.s : Int)] 69 (0, 0)))
    (ho : Own w1 (fun k => x.v.ownBlock = some k ∨ (w.heap.size ≤ k ∧ k < w1.heap.size)) 5 1 y.v y.b.length (u8s y.b)) (hs : y.s ≤ y.b.length) (hu : (used (setE x.pb y E) : Int) ≤ room) :
    IsDisk w1 d (fun k => D k ∨ (w.heap.size ≤ k ∧ k < w1.heap.size)) room down (setE x.pb y E) := by
  obtain ⟨mb, h1, h2, h3, hlt, h4, h5, h6, h7, h8, h9⟩ := h
  have hxx := h5 x hx
  have nd : ∀ k, k = d ∨ k = mb → ¬ (k = x.pb ∨ x.v.ownBlock = some k) := by
    rintro k (rfl | rfl) (he | he)
    · rw [he, hxx.2.1] at h1; simp at h1
    · exact own_ne hxx.2.2.1 h1 (by decide) he
    · obtain ⟨_, _, es, clock, hm, _⟩ := h4
      rw [he, hxx.2.1] at hm; cases hm
    · obtain ⟨_, _, es, clock, hm, _⟩ := h4
      rcases hxx.2.2.1.1.2 with ⟨hv, _⟩ | ⟨g, cap, cur, hv, _, hg, _⟩
      · rw [hv] at he; simp [Value.ownBlock] at he
      · rw [hv] at he; simp [Value.ownBlock] at he
        subst he
        rw [hg] at hm; cases hm
  have far : ∀ z ∈ E, z.pb ≠ x.pb → ∀ k, z.v.ownBlock = some k → x.v.ownBlock ≠ some k := by
    intro z hz hne k hk1 hk2
    rcases List.mem_iff_getElem.1 hz with ⟨i, hi, rfl⟩
    rcases List.mem_iff_getElem.1 hx with ⟨j, hj, rfl⟩
    rcases Nat.lt_trichotomy i j with hij | hij | hij
    · exact (List.pairwise_iff_getElem.1 h6 i j hi hj hij).2 k hk1 hk2
    · subst hij; exact hne rfl
    · exact (List.pairwise_iff_getElem.1 h6 j i hj hi hij).2 k hk2 hk1
  refine ⟨mb, hk.heap h1 (nd d (.inl rfl)), .inl h2, .inl h3, ?_, ?_, ?_, ?_, hu, h8, h9⟩
  · rintro k (hk' | hk')
    · exact Nat.lt_of_lt_of_le (hlt k hk') hk.size
    · exact hk'.2
  · rw [setE_kbs hx rfl hy (h6.imp fun h => h.1)]
    exact h4.kp hk (nd mb (.inr rfl))
  · intro z hz
    obtain ⟨z0, hz0, rfl⟩ := List.mem_map.1 hz
    by_cases hp : z0.pb = x.pb
    · simp only [hp, if_true]
      refine ⟨.inl (by rw [hy.1]; exact hxx.1), by rw [hy.1]; exact hb, ho.mono (fun k _ hk' => ?_), hs⟩
      rcases hk' with hk' | hk'
      · exact .inl (hxx.2.2.1.2 k hk')
      · exact .inr hk'
    · simp only [hp, if_false]
      obtain ⟨a, b, c, e⟩ := h5 z0 hz0
      refine ⟨.inl a, hk.heap b (fun he => ?_), ?_, e⟩
      · rcases he with he | he
        · exact hp he
        · exact own_ne hxx.2.2.1 b (by decide) he
      · refine (c.only.kp hk (fun k hk' he => ?_)).mono (fun k _ hk' => .inl hk'.1)
        rcases he with he | he
        · exact own_ne c hxx.2.1 (by decide) (he ▸ hk'.2)
        · exact far z0 hz0 hp k hk'.2 he
  · refine List.pairwise_map.2 (h6.imp_of_mem fun {z1 z2} m1 m2 hr => ?_)
    by_cases p1 : z1.pb = x.pb
    · have p2 : z2.pb ≠ x.pb := fun e => hr.1 (p1.trans e.symm)
      simp only [p1, p2, if_true, if_false]
      refine ⟨by rw [hy.1]; exact fun e => p2 e.symm, fun k hk1 hk2 => ?_⟩
      rcases ho.2 k hk1 with h | h
      · exact far z2 m2 p2 k hk2 h
      · have := (h5 z2 m2).2.2.1.lt k hk2
        omega
    · by_cases p2 : z2.pb = x.pb
      · simp only [p1, p2, if_true, if_false]
        refine ⟨by rw [hy.1]; exact p1, fun k hk1 hk2 => ?_⟩
        rcases ho.2 k hk2 with h | h
        · exact far z1 m1 p1 k hk1 h
        · have := (h5 z1 m1).2.2.1.lt k hk1
          omega
      · simp only [p1, p2, if_false]
        exact hr

theorem sync_none (w : World) (d : Nat) (D : Nat → Prop) (room : Int) (down : Bool) (E : List Ent) (h : IsDisk w d D room down E) (n : Int) (hn : -9223372036854775808 ≤ n ∧ n ≤ 9223372036854775807) (c : Int)
    (hc : (down = true ∧ c = 10) ∨ (down = false ∧ at? (kbs E) n = none ∧ c = 4)) :
    Calls Try.prog 9 #[.pointer (some ⟨d, 0, none⟩), .int .i64 n] w fun e w' => e = .returned (code c) ∧ w' = w := by
  have P := As.mk (part_any w d D room down E h n hn)
  have e : partOut down (at? (kbs E) n) = .tuple #[.pointer none, code c] := by
    rcases hc with ⟨rfl, rfl⟩ | ⟨rfl, h2, rfl⟩
    · rfl
    · rw [h2]; rfl
  rw [e] at P
  clear h hc e
  unfold code at *
  go_enter Try.func9, Try.ntmps9
  go_wp2_with (go_at_call 33; go_must (refine P.out.mono ?_; rintro e w1 ⟨rfl, rfl⟩))
  go_ret
  exact ⟨rfl, rfl⟩

theorem used_same {pb : Nat} {y : Ent} {E : List Ent} (h : ∀ x ∈ E, x.pb = pb → x.b.length = y.b.length) : used (setE pb y E) = used E := by
  unfold used setE
  rw [List.map_map]
  congr 1
  refine List.map_congr_left fun z hz => ?_
  simp only [Function.comp_def]
  split
  · rename_i hp; exact (h z hz hp).symm
  · rfl
theorem uniq {E : List Ent} (h : E.Pairwise (fun x y => x.pb ≠ y.pb)) {x z : Ent} (hx : x ∈ E) (hz : z ∈ E) (hp : z.pb = x.pb) : z = x := by
  rcases List.mem_iff_getElem.1 hz with ⟨i, hi, rfl⟩
  rcases List.mem_iff_getElem.1 hx with ⟨j, hj, rfl⟩
  rcases Nat.lt_trichotomy i j with hij | hij | hij
  · exact absurd hp (List.pairwise_iff_getElem.1 h i j hi hj hij)
  · subst hij; rfl
  · exact absurd hp.symm (List.pairwise_iff_getElem.1 h j i hj hi hij)

theorem sync_some (w : World) (d : Nat) (D : Nat → Prop) (room : Int) (E : List Ent) (h : IsDisk w d D room false E) (x : Ent) (hx : x ∈ E) (ha : at? (kbs E) x.n = some x.pb) (hn : -9223372036854775808 ≤ x.n ∧ x.n ≤ 9223372036854775807) :
    Calls Try.prog 9 #[.pointer (some ⟨d, 0, none⟩), .int .i64 x.n] w fun e w' => e = .returned .nilIface ∧ IsDisk w' d (fun k => D k ∨ (w.heap.size ≤ k ∧ k < w'.heap.size)) room false (setE x.pb { x with s := x.b.length } E) ∧ Kp (fun k => k = x.pb ∨ x.v.ownBlock = some k) w w' := by
  have P := As.mk (part_any w d D room false E h x.n hn)
  have e : partOut false (at? (kbs E) x.n) = .tuple #[.pointer (some ⟨x.pb, 0, none⟩), .nilIface] := by rw [ha]; rfl
  rw [e] at P
  have H := As.mk h
  obtain ⟨mb, h1, h2, h3, hlt, h4, h5, h6, h7, h8, h9⟩ := h
  obtain ⟨_, hb, ho, hs⟩ := h5 x hx
  obtain ⟨A, c, hv, hc1, hc2, hr⟩ := ho.read
  have HX := As.mk (And.intro ho (And.intro hb (And.intro h6 h7)))
  rw [hv] at hb
  obtain ⟨c0, c1, fz⟩ := blk2 hb
  have f1 := fz 1
  have HV := As.mk hv
  clear h1 h2 h3 hlt h4 h5 h6 h7 h8 h9 ho hs hr hc1 hc2 hv hb e
  go_enter Try.func9, Try.ntmps9
  go_wp2_with (go_at_call 33; go_must (refine P.out.mono ?_; rintro e w1 ⟨rfl, rfl⟩))
  go_ret
  have K : Kp (fun k => k = x.pb ∨ x.v.ownBlock = some k) w1 (w1.setCell ⟨x.pb, 1, none⟩ (.int .i64 x.b.length)) := (Kp.refl _ w1).setCell (p := ⟨x.pb, 1, none⟩) (.inl (.inl rfl)) _
  have hne : ∀ k, x.v.ownBlock = some k → ¬ Is x.pb k := fun k hk he => own_ne HX.out.1 HX.out.2.1 (by decide) (show x.v.ownBlock = some x.pb from (show k = x.pb from he) ▸ hk)
  refine ⟨rfl, H.out.turnPart hx ⟨rfl, rfl⟩ K (by rw [blk_set HX.out.2.1]; rfl) ?_ (Nat.le_refl _) ?_, K⟩
  · exact (HX.out.1.only.kp ((Kp.refl (Is x.pb) w1).set 1 _) (fun k hk => hne k hk.2)).mono (fun k _ hk => .inl hk.2)
  · rw [used_same (fun z hz hp => by rw [uniq (HX.out.2.2.1.imp fun h => h.1) hx hz hp])]
    exact HX.out.2.2.2

set_option maxHeartbeats 1000000 in
set_option maxRecDepth 100000 in
theorem clone_any (F : Nat → Prop) (A : Option Addr) (c : Nat) (l : List UInt8) (w : World) (hr : Rd w F A (u8s l)) (hm : l.length ≤ 1000000000) (hc : A = none → c = 0) :
    Calls Try.prog 34 #[.slice A l.length c] w fun e w' => ∃ v, e = .returned v ∧ Own w' (New w) 5 1 v l.length (u8s l) ∧ Kp No w w' := by
  have R := As.mk hr
  have hnil := fun W A n => run_eql_slice_nil (P := Try.prog) W 22 5 A n c 0 0 Try.underlying22
  rcases A with _ | ad
  · have h0 : l = [] := by
      cases l with
      | nil => rfl
      | cons a r => obtain ⟨_, h, _⟩ := hr (by simp [u8s]); cases h
    subst h0
    obtain rfl := hc rfl
    clear hr
    go_enter Try.func34, Try.ntmps34
    go_wp2
    go_ret
    exact ⟨_, rfl, Own.nil _ _ _ _, Kp.refl _ _⟩
  · clear hr hc
    go_enter Try.func34, Try.ntmps34
    go_wp2_with (first
      | ((with_reducible refine gate (N := 7) rfl ?_); go_must (
          refine app _ rfl _ _ _ rfl 5 _ 1 1 info8 Try.underlying22 rfl (by decide) (.slice (some ⟨w.heap.size, 0, none⟩) 0 0) 0 [] rfl (G := New w) ?zo (some ad) l.length c (u8s l) rfl (R.out.keep ((Kp.refl _ _).alloc _)) (by rw [u8s_length, Nat.mul_one]) (u8s_one _) ?zb ?zc ?_
          case zo => exact own_lit #[] 0 rfl (by decide)
          case zb => unfold maxLen; omega
          case zc => omega
          intro v2 w2 o2 g2
          have O2 := As.mk o2
          have G2 := As.mk g2
          clear o2 g2)))
    go_ret
    refine ⟨_, rfl, ?_, ((Kp.refl No w).alloc _).grown G2.out (fun k hk => by simp [Value.ownBlock] at hk; omega)⟩
    have := O2.out.mono (G := New w) (fun k _ hk => by
      unfold New
      rcases hk with hk | hk
      · simp [Value.ownBlock] at hk; omega
      · simp at hk; omega)
    simpa using this

theorem read_none (w : World) (d : Nat) (D : Nat → Prop) (room : Int) (down : Bool) (E : List Ent) (h : IsDisk w d D room down E) (n : Int) (hn : -9223372036854775808 ≤ n ∧ n ≤ 9223372036854775807) (c : Int)
    (hc : (down = true ∧ c = 10) ∨ (down = false ∧ at? (kbs E) n = none ∧ c = 4)) :
    Calls Try.prog 12 #[.pointer (some ⟨d, 0, none⟩), .int .i64 n] w fun e w' => e = .returned (.tuple #[.slice none 0 0, code c]) ∧ w' = w := by
  have P := As.mk (part_any w d D room down E h n hn)
  have e : partOut down (at? (kbs E) n) = .tuple #[.pointer none, code c] := by
    rcases hc with ⟨rfl, rfl⟩ | ⟨rfl, h2, rfl⟩
    · rfl
    · rw [h2]; rfl
  rw [e] at P
  clear h hc e
  unfold code at *
  go_enter Try.func12, Try.ntmps12
  go_wp2_with (go_at_call 33; go_must (refine P.out.mono ?_; rintro e w1 ⟨rfl, rfl⟩))
  go_ret2
  exact ⟨rfl, rfl⟩

theorem read_some (w : World) (d : Nat) (D : Nat → Prop) (room : Int) (E : List Ent) (h : IsDisk w d D room false E) (x : Ent) (hx : x ∈ E) (ha : at? (kbs E) x.n = some x.pb) (hn : -9223372036854775808 ≤ x.n ∧ x.n ≤ 9223372036854775807) (hl : x.b.length ≤ 1000000000) :
    Calls Try.prog 12 #[.pointer (some ⟨d, 0, none⟩), .int .i64 x.n] w fun e w' => ∃ v, e = .returned (.tuple #[v, .nilIface]) ∧ Own w' (New w) 5 1 v x.b.length (u8s x.b) ∧ Kp No w w' := by
  have P := As.mk (part_any w d D room false E h x.n hn)
  have e : partOut false (at? (kbs E) x.n) = .tuple #[.pointer (some ⟨x.pb, 0, none⟩), .nilIface] := by rw [ha]; rfl
  rw [e] at P
  obtain ⟨mb, h1, h2, h3, hlt, h4, h5, h6, h7, h8, h9⟩ := h
  obtain ⟨_, hb, ho, hs⟩ := h5 x hx
  have hcap : ∀ A c, x.v = .slice A x.b.length c → A = none → c = 0 := by
    rintro A c hv rfl
    rcases ho.1.2 with ⟨h, _⟩ | ⟨g, cap, cur, h, _⟩
    · rw [hv] at h; injection h
    · rw [hv] at h; injection h with h; cases h
  obtain ⟨A, c, hv, hc1, hc2, hr⟩ := ho.read
  rw [hv] at hb
  obtain ⟨c0, c1, fz⟩ := blk2 hb
  have C := As.mk (clone_any _ A c x.b w hr hl (hcap A c hv))
  clear h1 h2 h3 hlt h4 h5 h6 h7 h8 h9 ho hs hr hc1 hc2 hv hb e hcap
  go_enter Try.func12, Try.ntmps12
  go_wp2_with (first
    | (go_at_call 33; go_must (refine P.out.mono ?_; rintro e w1 ⟨rfl, rfl⟩))
    | (go_at_call 34; go_must (refine C.out.mono ?_; rintro e w2 ⟨v, rfl, ho, hk⟩; have O := As.mk ho; have K := As.mk hk; clear ho hk C)))
  go_ret2
  exact ⟨v, rfl, O.out, K.out⟩
end Go.Proofs.Ytnonbimelkagpaa
