/- The disk: Append to a part that is not there yet; Append over the parts as a list. -/
import Derived.Test.YtnonbimelkagpaaDiskE
namespace Go.Proofs.Ytnonbimelkagpaa
set_option linter.unusedVariables false
set_option linter.unusedSimpArgs false
open Go.RowKit Go.Lib

def insE (y : Ent) : List Ent → List Ent
  | [] => [y]
  | x :: r => if y.n < x.n then y :: x :: r else x :: insE y r
theorem insE_mem {y : Ent} : ∀ {E : List Ent} {z : Ent}, z ∈ insE y E → z = y ∨ z ∈ E
  | [], z, h => .inl (List.mem_singleton.1 h)
  | x :: r, z, h => by
    unfold insE at h
    split at h
    · exact (List.mem_cons.1 h).imp id id
    · rcases List.mem_cons.1 h with rfl | h
      · exact .inr (List.mem_cons.2 (.inl rfl))
      · rcases insE_mem h with h | h
        · exact .inl h
        · exact .inr (List.mem_cons.2 (.inr h))
theorem insE_pt {y : Ent} : ∀ (E : List Ent), (insE y E).map Ent.pt = pIns y.pt (E.map Ent.pt)
  | [] => rfl
  | x :: r => by
    unfold insE pIns
    rw [List.map_cons]
    simp only
    by_cases h : y.n < x.n
    · rw [if_pos h, if_pos (show y.pt.n < x.pt.n from h)]; rfl
    · rw [if_neg h, if_neg (show ¬ y.pt.n < x.pt.n from h), List.map_cons, insE_pt r]
theorem insE_kbs {y : Ent} : ∀ {E : List Ent}, (∀ x ∈ E, x.n ≠ y.n) → kbs (insE y E) = ins y.n y.pb (kbs E)
  | [], _ => rfl
  | x :: r, h => by
    have h1 := h x (List.mem_cons.2 (.inl rfl))
    have ih := insE_kbs (y := y) (E := r) (fun z hz => h z (List.mem_cons.2 (.inr hz)))
    unfold insE
    show _ = ins y.n y.pb ((x.n, x.pb) :: kbs r)
    unfold ins
    simp only
    by_cases hlt : y.n < x.n
    · rw [if_pos hlt, if_pos hlt]; rfl
    · rw [if_neg hlt, if_neg hlt, if_neg h1, ← ih]; rfl
theorem insE_used {y : Ent} : ∀ (E : List Ent), used (insE y E) = used E + y.b.length
  | [] => by simp [insE, used]
  | x :: r => by
    have ih := insE_used (y := y) r
    unfold used at ih
    unfold insE used
    by_cases h : y.n < x.n
    · rw [if_pos h, List.map_cons, List.map_cons, List.sum_cons, List.sum_cons]; omega
    · rw [if_neg h, List.map_cons, List.map_cons, List.sum_cons, List.sum_cons, ih]; omega
theorem insE_pairwise {R : Ent → Ent → Prop} {y : Ent} (hs : ∀ a b, R a b → R b a) : ∀ {E : List Ent}, E.Pairwise R → (∀ x ∈ E, R y x) → (insE y E).Pairwise R
  | [], _, _ => by simp [insE]
  | x :: r, h, hy => by
    obtain ⟨h1, h2⟩ := List.pairwise_cons.1 h
    unfold insE
    split
    · exact List.pairwise_cons.2 ⟨fun z hz => hy z hz, h⟩
    · refine List.pairwise_cons.2 ⟨fun z hz => ?_, insE_pairwise hs h2 (fun z hz => hy z (List.mem_cons.2 (.inr hz)))⟩
      rcases insE_mem hz with rfl | hz
      · exact hs _ _ (hy x (List.mem_cons.2 (.inl rfl)))
      · exact h1 z hz

/-- A part has come. -/
theorem IsDisk.turnIns {w w1 : World} {d mb : Nat} {D : Nat → Prop} {room : Int} {down : Bool} {E : List Ent} (h : IsDisk w d D room down E) {y : Ent}
    (h1 : w.heap[d]? = some (.cells #[.int .i64 room, .map (some mb), .bool down] 65 (0, 0))) (hk : Kp (Is mb) w w1) (hm : Mp Try.prog 3 ptrTok w1 mb (ins y.n y.pb (kbs E))) (hn : at? (kbs E) y.n = none)
    (hp : w.heap.size ≤ y.pb) (hb : w1.heap[y.pb]? = some (.cells #[y.v, .int .i64 (y.s : Int)] 69 (0, 0))) (ho : Own w1 (New w) 5 1 y.v y.b.length (u8s y.b)) (hs : y.s ≤ y.b.length) (hu : ((used E + y.b.length : Nat) : Int) ≤ room) :
    IsDisk w1 d (Gr D w w1) room down (insE y E) := by
  obtain ⟨mb', h1', h2, h3, hlt, h4, h5, h6, h7, h8, h9⟩ := h
  have : mb' = mb := by rw [h1] at h1'; simpa using h1'.symm
  subst this
  obtain ⟨n1, n2⟩ := IsDisk.ne_mb h1 h4 h5
  have hne : ∀ x ∈ E, x.n ≠ y.n := by
    intro x hx e
    rw [kbs_find] at hn
    have := List.find?_eq_none.1 (Option.map_eq_none_iff.1 hn) x hx
    simp [e] at this
  refine ⟨mb', hk.heap h1 n1, .inl h2, .inl h3, ?_, by rw [insE_kbs hne]; exact hm, fun x hx => ?_, ?_, by rw [insE_used]; exact hu, h8, h9⟩
  · rintro k (hk' | hk')
    · exact Nat.lt_of_lt_of_le (hlt k hk') hk.size
    · exact hk'.2
  · rcases insE_mem hx with rfl | hx
    · exact ⟨.inr ⟨hp, blk_lt hb⟩, hb, ho.mono (fun k hk hk' => .inr ⟨hk', hk⟩), hs⟩
    · obtain ⟨a, b, c, e⟩ := h5 x hx
      refine ⟨.inl a, hk.heap b (n2 x hx).1, (c.only.kp hk (fun k hk' he => ?_)).mono (fun k _ hk' => .inl hk'.1), e⟩
      have he' : k = mb' := he
      exact (n2 x hx).2 (he' ▸ hk'.2)
  · refine insE_pairwise (fun a b hab => ⟨fun e => hab.1 e.symm, fun k h1 h2 => hab.2 k h2 h1⟩) h6 (fun x hx => ⟨fun e => ?_, fun k hk1 hk2 => ?_⟩)
    · have := hlt _ (h5 x hx).1
      omega
    · have h1 := ho.2 k hk1
      have h2 := (h5 x hx).2.2.1.lt k hk2
      unfold New at h1
      omega

/-- What reads as cells lies in no map. -/
theorem Rd.not_map {P : Program} {kt : TypeId} {g : Value → Option Nat} {w : World} {mb : Nat} {l : List (Int × Nat)} {F : Nat → Prop} {A : Option Addr} {cs : List Value} (h : Rd w F A cs) (hm : Mp P kt g w mb l) : Rd w (fun k => F k ∧ ¬ Is mb k) A cs := by
  intro hp
  obtain ⟨ad, rfl, hf, hc⟩ := h hp
  refine ⟨ad, rfl, ⟨hf, fun e => ?_⟩, hc⟩
  obtain ⟨_, _, es, clock, hb, _⟩ := hm
  have h0 := hc 0 _ (List.getElem?_eq_getElem hp)
  have he : (ad.add 0).block = mb := by rw [add_block]; exact e
  rw [← he] at hb
  simp [World.cell?, hb] at h0

set_option maxHeartbeats 2000000 in
set_option maxRecDepth 100000 in
theorem append_new (w : World) (d : Nat) (D : Nat → Prop) (room : Int) (E : List Ent) (h : IsDisk w d D room false E) (n : Int) (ha : at? (kbs E) n = none) (hE : E.length < 1000000000) (hn0 : 0 ≤ n) (hn : n ≤ 9223372036854775807) (F : Nat → Prop) (A : Option Addr) (k c : Nat) (b : List UInt8) (hr : Rd w F A (u8s b)) (hbl : b.length = k)
    (hf : (k : Int) ≤ room - used E) :
    Calls Try.prog 8 #[.pointer (some ⟨d, 0, none⟩), .int .i64 n, .slice A k c] w fun e w' => e = .returned .nilIface ∧ (∃ y : Ent, y.pt = ⟨n, b, 0⟩ ∧ IsDisk w' d (Gr D w w') room false (insE y E)) ∧ Kp D w w' := by
  have H := As.mk h
  have hu := h.room_le
  obtain ⟨mb, h1, h2, h3, hlt, h4, h5, h6, h7, h8, h9⟩ := h
  obtain ⟨c0, c1, c2, fz⟩ := blk3 h1
  have hn1 : ¬ n < 0 := by omega
  have hf1 : ¬ room - (used E : Int) < (k : Int) := by omega
  have hk : (k : Int) ≤ 1000000000 := by omega
  have HR := As.mk hr
  have HB := As.mk hbl
  have HA := As.mk ha
  clear h1 h2 h3 hlt h4 h5 h6 h7 h8 h9 fz c1 hr hbl ha
  have hw := IntWalk.i64_in (room - (used E : Int)) (by omega)
  go_enter Try.func8, Try.ntmps8
  go_wp2
  refine wp_region_plan (fun w' => w'.cell? ⟨d, 0, none⟩ = some (.int .i64 room) ∧ Kp No w w') (by kernel_rfl) ?_
  have hS : w.drew.cell? ⟨d, 0, none⟩ = some (.int .i64 room) ∧ Kp No w w.drew := ⟨c0, (Kp.refl _ _).drew⟩
  revert hS
  generalize w.drew = w6
  intro hS
  simp only [lexOf, Nat.reduceAdd, List.size_toArray, List.length_cons, List.length_nil, Array.replicate, List.replicate]
  repeat
    refine plan_take (v := ?_) rfl (by kernel_rfl) (by rfl) hS ?_ ?_
    rotate_left 1
    · intro w hSw; have hSw1 := hSw.1; go_simp
      try with_reducible rfl
    simp only [Act.put, List.setIfInBounds_toArray, List.set_cons_zero, List.set_cons_succ]
  refine plan_do rfl (by kernel_rfl) (by rfl) (fun K hK => ?_)
  go_simp
  go_at_call 23
  refine (used_any _ d D room false E (H.out.keep hS.2)).mono ?_
  rintro e w7 ⟨rfl, kk⟩
  replace hS := And.intro (kk.cell hS.1 id) (hS.2.then_ kk)
  refine hK.out _ _ hS ?_
  clear K hK kk
  simp only [Act.put, List.setIfInBounds_toArray, List.set_cons_zero, List.set_cons_succ]
  repeat
    refine plan_take (v := ?_) rfl (by kernel_rfl) (by rfl) hS ?_ ?_
    rotate_left 1
    · intro w hSw; go_simp
      try with_reducible rfl
    simp only [Act.put, List.setIfInBounds_toArray, List.set_cons_zero, List.set_cons_succ]
  refine plan_done (by kernel_rfl) (NoPanic.normal ?_)
  have K7 := As.mk hS.2
  have H7 := As.mk (H.out.keep hS.2)
  clear hS hw
  have HH := H7.out
  obtain ⟨mb, h1, h2, h3, hlt, h4, h5, h6, h7, h8, h9⟩ := HH
  have HD := As.mk (And.intro h1 h3)
  obtain ⟨c0, c1, c2, fz⟩ := blk3 h1
  have hz : ∀ w, (zeroValue 66).run Try.prog w = .ok (.pointer none) w := fun w => by kernel_rfl
  obtain ⟨hr1, _⟩ : (Instr.lookup 63 (.map (some mb)) (.int .i64 n) true).run Try.prog w7 = .ok (.tuple #[.pointer none, .bool false]) w7 ∧ True := by
    rcases h4.look keyed_int Try.underlying3 Try.underlying63 hz rfl (fun b => .pointer (some ⟨b, 0, none⟩)) (fun v b => ptrTok_inv) n ⟨by omega, hn⟩ with ⟨hb, hr1, _⟩ | ⟨b', hb, hr1, _⟩
    · exact ⟨hr1, trivial⟩
    · rw [HA.out] at hb; cases hb
  have HM := As.mk h4
  have hmb := h4.lt
  have hdl := blk_lt h1
  clear hz h1 h2 h3 hlt h4 h5 h6 h7 fz
  go_wp2_with (first
    | (at_mapUpdate; go_must (
    refine mp_put rfl _ _ _ 63 rfl 3 66 ptrTok keyed_int Try.underlying3 Try.underlying63 mb rfl n rfl w7.heap.size (.pointer (some ⟨w7.heap.size, 0, none⟩)) rfl rfl ⟨by omega, hn⟩ (kbs E) (HM.out.keep ((Kp.refl _ _).alloc _)) (by rw [kbs, List.length_map]; exact hE) ?_
    intro w8 hm8 hk8
    have hb8 := hk8.heap (blk_new w7 #[.slice none 0 0, .int .i64 0] 69) (fun e => by have : w7.heap.size = mb := e; omega)
    obtain ⟨p0, p1, pz⟩ := blk2 hb8
    have pz0 := pz 0
    have B8 := As.mk hb8
    have M8 := As.mk hm8
    have K8 := As.mk hk8
    clear hb8 hm8 hk8 pz))
    | ((with_reducible refine gate (N := 56) rfl ?_); go_must (
    refine app _ rfl _ _ _ rfl 5 _ 1 1 info8d Try.underlying22 rfl (by decide) (.slice none 0 0) 0 [] rfl (G := fun _ => False) (Own.nil _ _ _ _) A k c (u8s b) rfl ((Rd.not_map (HR.out.keep K7.out) HM.out).kp ((((Kp.refl No w7).alloc _).mono (fun _ _ h => h.elim)).trans K8.out (fun _ _ h => h)) (fun _ h => h.2)) (by rw [u8s_length, HB.out, Nat.mul_one]) (u8s_one _) ?zb ?zc ?_
    case zb => unfold maxLen; omega
    case zc => omega
    intro v2 w2 o2 g2
    simp only [Nat.zero_add, List.nil_append] at o2
    have hb2 := (g2.block w7.heap.size (blk_lt B8.out) (by simp [Value.ownBlock])).trans B8.out
    have B2 := As.mk hb2
    obtain ⟨q0, q1, qz⟩ := blk2 hb2
    have qz0 := qz 0
    obtain ⟨A2, c2', rfl, _, _, _⟩ := o2.read
    have O2 := As.mk o2
    have G2 := As.mk g2
    clear o2 g2 hb2 qz)))
  go_ret
  have e1 : Kp (Is mb) w7 (w7.alloc (.cells #[.slice none 0 0, .int .i64 0] 69)) := (Kp.refl _ w7).alloc _
  have e2 : Kp (Is mb) w7 w8 := e1.trans K8.out (fun _ _ h => h)
  have e3 : Kp (Is mb) w7 w2 := e2.grown G2.out (fun k hk => by simp [Value.ownBlock] at hk)
  have e4 : Kp (Is mb) w7 (w2.setCell ⟨w7.heap.size, 0, none⟩ (.slice A2 k c2')) := e3.setCell (p := ⟨w7.heap.size, 0, none⟩) (.inr (Nat.le_refl _)) _
  have f1 : Kp (Is w7.heap.size) w8 (w2.setCell ⟨w7.heap.size, 0, none⟩ (.slice A2 k c2')) := ((Kp.refl _ w8).grown G2.out (fun k hk => by simp [Value.ownBlock] at hk)).set 0 _
  have hs8 : w7.heap.size < w8.heap.size := by have := K8.out.size; simp at this; omega
  have hs2 := G2.out.size
  have hlen : b.length = k := by have := HB.out; omega
  have hD := (H7.out.turnIns (w1 := w2.setCell ⟨w7.heap.size, 0, none⟩ (.slice A2 k c2')) (y := ⟨n, w7.heap.size, .slice A2 k c2', b, 0⟩) HD.out.1 e4
    (M8.out.kp f1 (fun e => by have : mb = w7.heap.size := e; omega)) HA.out (Nat.le_refl _) (by rw [blk_set B2.out]; rfl) (by
      show Own _ _ _ _ (.slice A2 k c2') b.length (u8s b)
      rw [hlen]
      have o3 := O2.out.only
      have o4 : Own w2 (fun q => w7.heap.size < q) _ 1 (.slice A2 k c2') k (u8s b) := ⟨by have := o3.1; simpa using this, fun q hk => by
        rcases (o3.2 q hk).1 with h | h
        · simp [Value.ownBlock] at h
        · omega⟩
      exact (o4.kp ((Kp.refl (Is w7.heap.size) w2).set 0 _) (fun q hq e => by have : q = w7.heap.size := e; omega)).mono (fun q _ hq => by unfold New; omega)) (Nat.zero_le _) (by
      show ((used E + b.length : Nat) : Int) ≤ room
      rw [hlen]; omega))
  have hs7 := K7.out.size
  refine ⟨rfl, ⟨_, rfl, hD.mono ?_ ?_⟩, (K7.out.mono (fun _ _ h => h.elim)).trans (e4.gr (fun q hq => by have e : q = mb := hq; rw [e]; exact HD.out.2)) (fun _ _ h => h)⟩
  · rintro q (hq | hq)
    · exact .inl hq
    · exact .inr ⟨by omega, hq.2⟩
  · exact Gr.lt (fun q hq => H.out.lt q hq) (by have := e4.size; omega)

theorem disk_append (w : World) (d : Nat) (D : Nat → Prop) (room : Int) (down : Bool) (L : List Pt) (h : Disk w d D room down L) (hL : L.length < 1000000000) (n : Int) (hn : -9223372036854775808 ≤ n ∧ n ≤ 9223372036854775807) (F : Nat → Prop) (A : Option Addr) (k c : Nat) (b : List UInt8) (hr : Rd w F A (u8s b)) (hbl : b.length = k) (hk : k ≤ 1000000000) :
    Calls Try.prog 8 #[.pointer (some ⟨d, 0, none⟩), .int .i64 n, .slice A k c] w fun e w' => e = .returned (errV (appCode down room L n k)) ∧ Disk w' d (Gr D w w') room down (if appCode down room L n k = 0 then pAppend n b L else L) ∧ Kp D w w' := by
  obtain ⟨E, h1, rfl⟩ := h
  by_cases hc : appCode down room (E.map Ent.pt) n k = 0
  · rw [hc, if_pos rfl]
    unfold appCode at hc
    rw [pUsed_map] at hc
    cases down with
    | true => simp at hc
    | false =>
      rw [if_neg (by decide)] at hc
      by_cases hn0 : n < 0
      · rw [if_pos hn0] at hc; cases hc
      · rw [if_neg hn0] at hc
        have hf : (k : Int) ≤ room - used E := by
          by_cases hf : room - (used E : Int) < (k : Int)
          · rw [if_pos hf] at hc; cases hc
          · omega
        unfold pAppend
        rw [pFind_map]
        cases hfd : E.find? (·.n == n) with
        | some x =>
          obtain ⟨hm, rfl, ha⟩ := find_ent hfd
          refine (append_old w d D room E h1 x hm ha (by omega) hn.2 F A k c b hr hbl hf).mono ?_
          rintro e w' ⟨rfl, ⟨y, hy, h2⟩, h3⟩
          have hD : ∀ k, (k = x.pb ∨ x.v.ownBlock = some k) → D k := by
            obtain ⟨mb, _, _, _, _, _, h5, _⟩ := h1
            rintro k (rfl | hk)
            · exact (h5 x hm).1
            · exact (h5 x hm).2.2.1.2 k hk
          exact ⟨rfl, ⟨_, h2, setE_pt h1.sorted h1.pbs hm (fun x => ⟨x.n, x.b ++ b, x.s⟩) hy⟩, h3.gr hD⟩
        | none =>
          refine (append_new w d D room E h1 n (by rw [kbs_find, hfd]; rfl) (by simpa using hL) (by omega) hn.2 F A k c b hr hbl hf).mono ?_
          rintro e w' ⟨rfl, ⟨y, hy, h2⟩, h3⟩
          exact ⟨rfl, ⟨_, h2, by rw [insE_pt, hy]; rfl⟩, h3⟩
  · refine (append_bad w d D room down E h1 n A k c hk hc).mono ?_
    rintro e w' ⟨rfl, hkp⟩
    rw [if_neg hc, errV_pos hc]
    exact ⟨rfl, ⟨E, (h1.keep hkp).mono (fun k hk => .inl hk) (Gr.lt h1.lt hkp.size), rfl⟩, hkp.mono (fun _ _ h => h.elim)⟩
end Go.Proofs.Ytnonbimelkagpaa
