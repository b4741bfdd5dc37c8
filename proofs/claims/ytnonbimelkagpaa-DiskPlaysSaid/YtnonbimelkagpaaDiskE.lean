/- The disk: Append. -/
import Derived.Test.YtnonbimelkagpaaDiskD
namespace Go.Proofs.Ytnonbimelkagpaa
set_option linter.unusedVariables false
set_option linter.unusedSimpArgs false
open Go.RowKit Go.Lib

/-- What 'd.Append(n, b)' says is amiss. -/
def appCode (down : Bool) (room : Int) (L : List Pt) (n : Int) (k : Nat) : Nat := if down then 10 else if n < 0 then 1 else if room - pUsed L < k then 6 else 0

set_option maxHeartbeats 1000000 in
set_option maxRecDepth 100000 in
theorem append_bad (w : World) (d : Nat) (D : Nat → Prop) (room : Int) (down : Bool) (E : List Ent) (h : IsDisk w d D room down E) (n : Int) (A : Option Addr) (k c : Nat) (hk : k ≤ 1000000000) (hc : appCode down room (E.map Ent.pt) n k ≠ 0) :
    Calls Try.prog 8 #[.pointer (some ⟨d, 0, none⟩), .int .i64 n, .slice A k c] w fun e w' => e = .returned (code (appCode down room (E.map Ent.pt) n k)) ∧ Kp No w w' := by
  have H := As.mk h
  have hu := h.room_le
  unfold appCode at *
  rw [pUsed_map] at *
  obtain ⟨mb, h1, h2, h3, hlt, h4, h5, h6, h7, h8, h9⟩ := h
  obtain ⟨c0, c1, c2, fz⟩ := blk3 h1
  clear h1 h2 h3 hlt h4 h5 h6 h7 h8 h9 fz c1
  cases down with
  | true =>
    rw [if_pos rfl]
    clear hc
    unfold code
    go_enter Try.func8, Try.ntmps8
    go_wp2
    go_ret
    exact ⟨rfl, Kp.refl _ _⟩
  | false =>
    rw [if_neg (by decide)]
    rw [if_neg (by decide)] at hc
    by_cases hn : n < 0
    · rw [if_pos hn]
      clear hc
      unfold code
      go_enter Try.func8, Try.ntmps8
      go_wp2
      go_ret
      exact ⟨rfl, Kp.refl _ _⟩
    · rw [if_neg hn]
      rw [if_neg hn] at hc
      have hf : room - (used E : Int) < (k : Int) := by
        by_cases hf : room - (used E : Int) < (k : Int)
        · exact hf
        · rw [if_neg hf] at hc; exact absurd rfl hc
      rw [if_pos hf]
      clear hc
      unfold code
      have hw := IntWalk.i64_in (room - (used E : Int)) (by omega)
      go_enter Try.func8, Try.ntmps8
      go_wp2
      refine wp_region_plan (fun w' => w'.cell? ⟨d, 0, none⟩ = some (.int .i64 room) ∧ Kp No w w') (by kernel_rfl) ?_
      have hS : w.drew.cell? ⟨d, 0, none⟩ = some (.int .i64 room) ∧ Kp No w w.drew := ⟨c0, (Kp.refl _ _).drew⟩
      revert hS
      generalize w.drew = w6
      intro hS
      simp only [lexOf, Nat.reduceAdd, List.size_toArray, List.length_cons, List.length_nil, Array.replicate, List.replicate]
      repeat
        refine plan_take (v := ?_) rfl (by kernel_rfl) (by rfl) hS ?_ ?_
        rotate_left 1
        · intro w hSw; have hSw1 := hSw.1; go_simp
          try with_reducible rfl
        simp only [Act.put, List.setIfInBounds_toArray, List.set_cons_zero, List.set_cons_succ]
      refine plan_do rfl (by kernel_rfl) (by rfl) (fun K hK => ?_)
      go_simp
      go_at_call 23
      refine (used_any _ d D room false E (H.out.keep hS.2)).mono ?_
      rintro e w7 ⟨rfl, kk⟩
      replace hS := And.intro (kk.cell hS.1 id) (hS.2.then_ kk)
      refine hK.out _ _ hS ?_
      clear K hK kk
      simp only [Act.put, List.setIfInBounds_toArray, List.set_cons_zero, List.set_cons_succ]
      repeat
        refine plan_take (v := ?_) rfl (by kernel_rfl) (by rfl) hS ?_ ?_
        rotate_left 1
        · intro w hSw; go_simp
          try with_reducible rfl
        simp only [Act.put, List.setIfInBounds_toArray, List.set_cons_zero, List.set_cons_succ]
      refine plan_done (by kernel_rfl) (NoPanic.normal ?_)
      go_wp2
      go_ret
      exact ⟨rfl, hS.2⟩

theorem info8d : (Try.prog.info? 5).map (fun i => (i.zero, i.size, i.bytes)) = some (some (.int .u8 0), 1, 1) := by kernel_rfl

set_option maxHeartbeats 2000000 in
set_option maxRecDepth 100000 in
theorem append_old (w : World) (d : Nat) (D : Nat → Prop) (room : Int) (E : List Ent) (h : IsDisk w d D room false E) (x : Ent) (hx : x ∈ E) (ha : at? (kbs E) x.n = some x.pb) (hn0 : 0 ≤ x.n) (hn : x.n ≤ 9223372036854775807) (F : Nat → Prop) (A : Option Addr) (k c : Nat) (b : List UInt8) (hr : Rd w F A (u8s b)) (hbl : b.length = k)
    (hf : (k : Int) ≤ room - used E) :
    Calls Try.prog 8 #[.pointer (some ⟨d, 0, none⟩), .int .i64 x.n, .slice A k c] w fun e w' => e = .returned .nilIface ∧ (∃ y : Ent, y.pt = ⟨x.n, x.b ++ b, x.s⟩ ∧ IsDisk w' d (Gr D w w') room false (setE x.pb y E)) ∧ Kp (fun k => k = x.pb ∨ x.v.ownBlock = some k) w w' := by
  have H := As.mk h
  have hu := h.room_le
  obtain ⟨mb, h1, h2, h3, hlt, h4, h5, h6, h7, h8, h9⟩ := h
  obtain ⟨c0, c1, c2, fz⟩ := blk3 h1
  have hn1 : ¬ x.n < 0 := by omega
  have hf1 : ¬ room - (used E : Int) < (k : Int) := by omega
  have hk : (k : Int) ≤ 1000000000 := by omega
  have HR := As.mk hr
  have HB := As.mk hbl
  have HA := As.mk ha
  clear h1 h2 h3 hlt h4 h5 h6 h7 h8 h9 fz c1 hr hbl ha
  have hw := IntWalk.i64_in (room - (used E : Int)) (by omega)
  go_enter Try.func8, Try.ntmps8
  go_wp2
  refine wp_region_plan (fun w' => w'.cell? ⟨d, 0, none⟩ = some (.int .i64 room) ∧ Kp No w w') (by kernel_rfl) ?_
  have hS : w.drew.cell? ⟨d, 0, none⟩ = some (.int .i64 room) ∧ Kp No w w.drew := ⟨c0, (Kp.refl _ _).drew⟩
  revert hS
  generalize w.drew = w6
  intro hS
  simp only [lexOf, Nat.reduceAdd, List.size_toArray, List.length_cons, List.length_nil, Array.replicate, List.replicate]
  repeat
    refine plan_take (v := ?_) rfl (by kernel_rfl) (by rfl) hS ?_ ?_
    rotate_left 1
    · intro w hSw; have hSw1 := hSw.1; go_simp
      try with_reducible rfl
    simp only [Act.put, List.setIfInBounds_toArray, List.set_cons_zero, List.set_cons_succ]
  refine plan_do rfl (by kernel_rfl) (by rfl) (fun K hK => ?_)
  go_simp
  go_at_call 23
  refine (used_any _ d D room false E (H.out.keep hS.2)).mono ?_
  rintro e w7 ⟨rfl, kk⟩
  replace hS := And.intro (kk.cell hS.1 id) (hS.2.then_ kk)
  refine hK.out _ _ hS ?_
  clear K hK kk
  simp only [Act.put, List.setIfInBounds_toArray, List.set_cons_zero, List.set_cons_succ]
  repeat
    refine plan_take (v := ?_) rfl (by kernel_rfl) (by rfl) hS ?_ ?_
    rotate_left 1
    · intro w hSw; go_simp
      try with_reducible rfl
    simp only [Act.put, List.setIfInBounds_toArray, List.set_cons_zero, List.set_cons_succ]
  refine plan_done (by kernel_rfl) (NoPanic.normal ?_)
  have K7 := As.mk hS.2
  have H7 := As.mk (H.out.keep hS.2)
  clear hS hw
  have HH := H7.out
  obtain ⟨mb, h1, h2, h3, hlt, h4, h5, h6, h7, h8, h9⟩ := HH
  have HD := As.mk h1
  obtain ⟨c0, c1, c2, fz⟩ := blk3 h1
  have hz : ∀ w, (zeroValue 66).run Try.prog w = .ok (.pointer none) w := fun w => by kernel_rfl
  obtain ⟨hr1, _⟩ : (Instr.lookup 63 (.map (some mb)) (.int .i64 x.n) true).run Try.prog w7 = .ok (.tuple #[.pointer (some ⟨x.pb, 0, none⟩), .bool true]) w7 ∧ True := by
    rcases h4.look keyed_int Try.underlying3 Try.underlying63 hz rfl (fun b => .pointer (some ⟨b, 0, none⟩)) (fun v b => ptrTok_inv) x.n ⟨by omega, hn⟩ with ⟨hb, _, _⟩ | ⟨b', hb, hr1, _⟩
    · rw [HA.out] at hb; cases hb
    · rw [HA.out] at hb
      obtain rfl := Option.some.inj hb
      exact ⟨hr1, trivial⟩
  obtain ⟨_, hb, ho, hs⟩ := h5 x hx
  have HX := As.mk (And.intro ho (And.intro hb (And.intro h6 (And.intro h7 hs))))
  obtain ⟨p0, p1, pz⟩ := blk2 hb
  have pz0 := pz 0
  have hxl := le_used hx
  clear hz h1 h2 h3 hlt h4 h5 h6 h7 hb ho fz pz
  go_wp2_with ((with_reducible refine gate (N := 56) rfl ?_); go_must (
    refine app _ rfl _ _ _ rfl 5 _ 1 1 info8d Try.underlying22 rfl (by decide) x.v x.b.length (u8s x.b) rfl (G := D) HX.out.1 A k c (u8s b) rfl (HR.out.keep K7.out) (by rw [u8s_length, HB.out, Nat.mul_one]) (u8s_one _) ?zb ?zc ?_
    case zb => unfold maxLen; omega
    case zc => omega
    intro v2 w2 o2 g2
    have hne : x.pb < w2.heap.size := by have := blk_lt HX.out.2.1; have := g2.size; omega
    have hb2 : w2.heap[x.pb]? = some (.cells #[x.v, .int .i64 (x.s : Int)] 69 (0, 0)) := by
      rw [g2.block x.pb (blk_lt HX.out.2.1) (fun e => own_ne HX.out.1 HX.out.2.1 (by decide) e.symm)]
      exact HX.out.2.1
    have B2 := As.mk hb2
    obtain ⟨q0, q1, qz⟩ := blk2 hb2
    have qz0 := qz 0
    obtain ⟨A2, c2', rfl, _, _, _⟩ := o2.read
    have O2 := As.mk o2
    have G2 := As.mk g2
    clear o2 g2 hb2 qz))
  go_ret
  have K2 : Kp (fun k => k = x.pb ∨ x.v.ownBlock = some k) w7 w2 := (Kp.refl _ w7).grown G2.out (fun k hk => .inl (.inr hk))
  have K3 : Kp (fun k => k = x.pb ∨ x.v.ownBlock = some k) w7 (w2.setCell ⟨x.pb, 0, none⟩ (Value.slice A2 (x.b.length + k) c2')) := K2.setCell (p := ⟨x.pb, 0, none⟩) (.inl (.inl rfl)) _
  have hlen : (x.b ++ b).length = x.b.length + k := by rw [List.length_append, HB.out]
  refine ⟨rfl, ⟨⟨x.n, x.pb, (Value.slice A2 (x.b.length + k) c2'), x.b ++ b, x.s⟩, rfl, ?_⟩, (K7.out.mono (fun _ _ h => h.elim)).trans K3 (fun _ _ h => h)⟩
  refine (H7.out.turnPart (w1 := w2.setCell ⟨x.pb, 0, none⟩ (Value.slice A2 (x.b.length + k) c2')) hx (y := ⟨x.n, x.pb, (Value.slice A2 (x.b.length + k) c2'), x.b ++ b, x.s⟩) ⟨rfl, rfl⟩ K3 (by rw [blk_set B2.out]; rfl) ?_ ?_ ?_).mono ?_ ?_
  · show Own _ _ _ _ (Value.slice A2 (x.b.length + k) c2') (x.b ++ b).length (u8s (x.b ++ b))
    rw [hlen, u8s_append]
    have o3 := O2.out.only
    have o4 : Own w2 (fun q => (x.v.ownBlock = some q ∨ (w7.heap.size ≤ q ∧ q < w2.heap.size)) ∧ q ≠ x.pb) _ 1 (Value.slice A2 (x.b.length + k) c2') _ _ := ⟨o3.1, fun q hk => by
      have hlt := (o3.lt q hk)
      refine ⟨?_, fun e => own_ne O2.out B2.out (by decide) (e ▸ hk)⟩
      rcases (o3.2 q hk).1 with h | h
      · exact .inl h
      · exact .inr ⟨h, hlt⟩⟩
    refine (o4.kp ((Kp.refl (Is x.pb) w2).set 0 (Value.slice A2 (x.b.length + k) c2')) (fun k hk => hk.2)).mono (fun k _ hk => ?_)
    rcases hk.1 with h | h
    · exact .inl h
    · exact .inr ⟨h.1, by simpa [World.setCell] using h.2⟩
  · show x.s ≤ (x.b ++ b).length
    have := HX.out.2.2.2.2
    omega
  · have := setE_used (HX.out.2.2.1.imp fun h => h.1) hx (y := ⟨x.n, x.pb, (Value.slice A2 (x.b.length + k) c2'), x.b ++ b, x.s⟩) rfl
    simp only at this
    omega
  · rintro k (hk | hk)
    · exact .inl hk
    · have := K7.out.size
      exact .inr ⟨by omega, hk.2⟩
  · exact Gr.lt (fun k hk => by have := H7.out.lt k hk; have := K7.out.size; exact H.out.lt k hk) (by have := K7.out.size; have := K3.size; omega)
end Go.Proofs.Ytnonbimelkagpaa
