/- The reference's disk: Remove. -/
import Derived.Test.YtnonbimelkagpaaRefE
import Derived.Test.YtnonbimelkagpaaPlanZ
import Derived.Test.YtnonbimelkagpaaJourH
namespace Go.Proofs.Ytnonbimelkagpaa
set_option linter.unusedVariables false
set_option linter.unusedSimpArgs false
open Go.RowKit Go.Lib

theorem infoPart : (Try.prog.info? 54).map (fun i => (i.zero, i.size, i.bytes)) = some (some (.agg #[.int .i64 0, .string ⟨#[]⟩, .int .i64 0]), 3, 32) := by kernel_rfl
theorem size3 : ∀ w, (sizeOf 54).run Try.prog w = .ok 3 w := fun w => by kernel_rfl
theorem ptCells_split (L : List Pt) (q : Nat) : ptCells L = ptCells (L.take q) ++ ptCells (L.drop q) := by rw [← ptCells_append, List.take_append_drop]
theorem ptCells_take (L : List Pt) (q : Nat) (hq : q ≤ L.length) : (ptCells L).take (q * 3) = ptCells (L.take q) := by
  rw [ptCells_split L q, List.take_left' (by rw [ptCells_len, List.length_take]; omega)]
theorem ptCells_drop (L : List Pt) (q : Nat) (hq : q ≤ L.length) : (ptCells L).drop (q * 3) = ptCells (L.drop q) := by
  rw [ptCells_split L q, List.drop_left' (by rw [ptCells_len, List.length_take]; omega)]
theorem ptCells_one : ∀ (L : List Pt) (u : Value), u ∈ ptCells L → u.oneCell' = true
  | [], u, h => by simp [ptCells] at h
  | x :: r, u, h => by
    rw [ptCells_cons] at h
    simp only [List.mem_cons] at h
    rcases h with rfl | rfl | rfl | h
    · rfl
    · rfl
    · rfl
    · exact ptCells_one r u h
/-- A new row without parts. -/
theorem Own.empty (w : World) : Own (w.alloc (.cells #[] 54)) (fun k => k = w.heap.size) 54 3 (.slice (some ⟨w.heap.size, 0, none⟩) 0 0) 0 [] :=
  ⟨⟨rfl, .inr ⟨w.heap.size, 0, #[], rfl, Nat.zero_le _, heap_alloc_new w _, Nat.le_refl _, Nat.zero_le _, rfl, rfl⟩⟩, fun k hk => by simp [Value.ownBlock] at hk; exact hk.symm⟩
theorem rremove_bad (w : World) (m : Nat) (M : Nat → Prop) (room : Int) (down : Bool) (L : List Pt) (h : Ref w m M room down L) (hL : L.length ≤ 1000000000) (n : Int) (c : Nat) (hc : c = partCode down L n) (h0 : c ≠ 0) :
    Calls Try.prog 19 #[.pointer (some ⟨m, 0, none⟩), .int .i64 n] w fun e w' => e = .returned (.int .i64 (c : Int)) ∧ w' = w := by
  have TH := As.mk (there_bad w m M room down L h hL n c hc h0)
  have hb : ((c : Int) == 0) = false := by rw [beq_eq_false_iff_ne]; omega
  clear h hc h0
  go_enter Try.func19, Try.ntmps19
  go_wp2_with (go_at_call 36; go_must (refine TH.out.mono ?_; rintro e w1 ⟨rfl, rfl⟩))
  go_ret
  exact ⟨rfl, rfl⟩
set_option maxHeartbeats 4000000 in
set_option maxRecDepth 100000 in
theorem rremove_ok (w : World) (m : Nat) (M : Nat → Prop) (room : Int) (L : List Pt) (h : Ref w m M room false L) (hL : L.length ≤ 1000000000) (n : Int) (q : Nat) (x : Pt) (hq : rIdx n L 0 = (q : Int)) (hx : L[q]? = some x) (L' : List Pt) (hL' : L' = L.take q ++ L.drop (q + 1)) :
    Calls Try.prog 19 #[.pointer (some ⟨m, 0, none⟩), .int .i64 n] w fun e w' => e = .returned (.int .i64 0) ∧ Ref w' m (Gr M w w') room false L' ∧ Kp M w w' := by
  have TH := As.mk (there_ok w m M room L h hL n q hq)
  have hql : q < L.length := (List.getElem?_eq_some_iff.1 hx).1
  obtain ⟨g, cc, SN⟩ := h.seen (by intro e; rw [e] at hql; simp at hql)
  obtain ⟨nL, hn⟩ : ∃ z, z = L.length := ⟨_, rfl⟩
  rw [← hn] at SN hql hL
  have S0 := As.mk SN
  have HN := As.mk hn
  have HL' := As.mk hL'
  have hcc : nL ≤ cc := by
    obtain ⟨A, c, e, h1, _⟩ := SN.own.read
    injection e with e1 e2 e3
    omega
  have hcc2 : (q : Int) ≤ (cc : Int) := by omega
  have hq0 : (0 : Int) ≤ (q : Int) := by omega
  have hq1 : (q : Int) < (nL : Int) := by omega
  have hblk := SN.blk
  have hwr := IntWalk.i64_in ((q : Int) + 1) (by omega)
  have hq2 : (q : Int) + 1 ≤ (nL : Int) := by omega
  have hq3 : (0 : Int) ≤ (q : Int) + 1 := by omega
  have hcut1 : ∀ W, (Instr.slice 38 (.slice (some ⟨g, 0, none⟩) nL cc) none (some (.int .i64 (q : Int))) none).run Try.prog W = .ok (.slice (some ⟨g, 0, none⟩) q cc) W := fun W => by
    have := run_slice_h W 38 (some ⟨g, 0, none⟩) nL cc Try.underlying38 .i64 (q : Int) hq0 hcc2
    rw [this, show Try.prog.elem 38 = 54 from rfl, size3]
    simp [sliced, Addr.add]
  have hcut2 : ∀ W, (Instr.slice 38 (.slice (some ⟨g, 0, none⟩) nL cc) (some (.int .i64 ((q : Int) + 1))) none none).run Try.prog W = .ok (.slice (cutA (some ⟨g, 0, none⟩) (q + 1) cc 3) (nL - (q + 1)) (cc - (q + 1))) W := fun W => by
    have := run_cut_lo (P := Try.prog) (A := some ⟨g, 0, none⟩) W 38 54 Try.underlying38 rfl 3 size3 nL cc ((q : Int) + 1) (by omega) (by omega)
    simpa using this
  have hb0 : ∀ W : World, (Instr.buildSlice 38 0 #[]).run Try.prog W = .ok (.slice (some ⟨W.heap.size, 0, none⟩) 0 0) (W.alloc (.cells #[] 54)) := fun W => by
    simp [Instr.buildSlice, run_underlying Try.underlying38, size3, Instr.fill, newRow, show Array.range 0 = #[] from by decide]
  clear SN h hq hx hn hL'
  have W0 := As.mk (Kp.refl No w)
  go_enter Try.func19, Try.ntmps19
  go_wp2_with (go_at_call 36; go_must (refine TH.out.mono ?_; rintro e w1 ⟨rfl, rfl⟩))
  refine wp_region_planZ_at [0, 2, 3, 4, 5, 6, 7, 9, 10, 11, 12, 13, 14, 15, 1, 8, 16, 17, 18, 19] 19 (fun w' => w'.heap[m]? = some (.cells #[.int .i64 room, .slice (some ⟨g, 0, none⟩) nL cc, .bool false] 40 (0, 0))) (by kernel_rfl) (by kernel_rfl) ?_
  have hS : w1.drew.heap[m]? = some (.cells #[.int .i64 room, .slice (some ⟨g, 0, none⟩) nL cc, .bool false] 40 (0, 0)) := hblk
  have S2 := As.mk S0.out.drew
  have K2 := As.mk (Kp.refl No w1).drew
  revert hS S2 K2
  generalize w1.drew = w2
  intro hS S2 K2
  simp only [permOf, Nat.reduceAdd, List.size_toArray, List.length_cons, List.length_nil, Array.replicate, List.replicate, List.getElem?_cons_zero, List.getElem?_cons_succ]
  iterate 14
    refine planZ_takeS (v := ?_) rfl (by kernel_rfl) (by rfl) hS ?_ ?_
    rotate_left 1
    · intro w hSw; obtain ⟨_, hs1, _, _⟩ := blk3 hSw; go_simp
      try with_reducible rfl
    simp only [Act.put, List.setIfInBounds_toArray, List.set_cons_zero, List.set_cons_succ]
  refine planZ_do rfl (by kernel_rfl) (by rfl) (fun K hK => ?_)
  unfold Oper.wp execOp
  simp only [resolve, Sem.run_bind, Sem.run_pure, Result.andThen_ok, List.map_toArray, List.map_cons, List.map_nil, hb0]
  replace hS := ((Kp.refl No w2).alloc (.cells #[] 54)).heap hS id
  refine hK.out _ _ hS ?_
  clear K hK
  simp only [Act.put, List.setIfInBounds_toArray, List.set_cons_zero, List.set_cons_succ]
  obtain ⟨A0, c0, e0, _, _, hrd⟩ := S2.out.own.read
  have RD := As.mk (show Rd w2 (fun k => M k ∧ k < w2.heap.size) (some ⟨g, 0, none⟩) (ptCells L) by
    injection e0 with e1
    rw [e1]
    exact hrd)
  clear hrd e0
  refine planZ_do rfl (by kernel_rfl) (by rfl) (fun K hK => ?_)
  refine app_wp _ _ _ rfl 54 _ 3 32 infoPart Try.underlying38 rfl (by decide) (.slice (some ⟨w2.heap.size, 0, none⟩) 0 0) 0 [] rfl (Own.empty w2) (some ⟨g, 0, none⟩) q cc (ptCells (L.take q)) rfl (F := fun k => M k ∧ k < w2.heap.size) ?zr ?zl ?zo ?zm ?zb ?_
  case zr =>
    have hq' : q ≤ L.length := by have := HN.out; omega
    rw [← ptCells_take L q hq']
    exact (RD.out.keep ((Kp.refl No w2).alloc _)).take _
  case zl => rw [ptCells_len, List.length_take]; have := HN.out; omega
  case zo => exact ptCells_one _
  case zm => unfold maxLen; omega
  case zb => omega
  intro v3 w3 o3 g3
  rw [Nat.zero_add, List.nil_append] at o3
  have hmlt : m < w2.heap.size := S2.out.lt m S2.out.mm
  replace hS := (g3.block m (blk_lt hS) (fun e => by simp [Value.ownBlock] at e; omega)).trans hS
  have RD3 := As.mk (show Rd w3 (fun k => M k ∧ k < w2.heap.size) (some ⟨g, 0, none⟩) (ptCells L) from (RD.out.keep ((Kp.refl No w2).alloc _)).kp (S := fun k => k = w2.heap.size) ((Kp.refl _ _).grown g3 (fun k hk => .inl (by simp [Value.ownBlock] at hk; exact hk.symm))) (fun k hk he => by have := hk.2; have e : k = w2.heap.size := he; omega))
  have O3 := As.mk o3
  have G3 := As.mk g3
  refine hK.out _ _ hS ?_
  clear K hK o3 g3
  simp only [Act.put, List.setIfInBounds_toArray, List.set_cons_zero, List.set_cons_succ]
  refine planZ_do rfl (by kernel_rfl) (by rfl) (fun K hK => ?_)
  refine app_wp _ _ _ rfl 54 _ 3 32 infoPart Try.underlying38 rfl (by decide) v3 q _ rfl O3.out _ _ _ (ptCells (L.drop (q + 1))) rfl (F := fun k => M k ∧ k < w2.heap.size) ?zr ?zl ?zo ?zm ?zb ?_
  case zr =>
    have hq' : q + 1 ≤ L.length := by have := HN.out; omega
    rw [← ptCells_drop L (q + 1) hq']
    exact RD3.out.cutA (q + 1) cc 3 (by rw [ptCells_len]; have := HN.out; omega)
  case zl => rw [ptCells_len, List.length_drop]; have := HN.out; omega
  case zo => exact ptCells_one _
  case zm => unfold maxLen; omega
  case zb => omega
  intro v4 w4 o4 g4
  replace hS := (g4.block m (blk_lt hS) (fun e => own_ne O3.out hS (by decide) e.symm)).trans hS
  obtain ⟨A4, c4, rfl, _, _, _⟩ := o4.read
  have O4 := As.mk o4
  have G4 := As.mk g4
  refine hK.out _ _ hS ?_
  clear K hK o4 g4
  simp only [Act.put, List.setIfInBounds_toArray, List.set_cons_zero, List.set_cons_succ]
  refine planZ_do rfl (by kernel_rfl) (by rfl) (fun K hK => ?_)
  go_simp
  refine hK.out _ _ hS ?_
  clear K hK
  simp only [Act.put, List.setIfInBounds_toArray, List.set_cons_zero, List.set_cons_succ]
  refine planZ_do rfl (by kernel_rfl) (by rfl) (fun K hK => ?_)
  go_simp
  refine hK.out _ _ hS ?_
  clear K hK
  simp only [Act.put, List.setIfInBounds_toArray, List.set_cons_zero, List.set_cons_succ]
  have HS := As.mk hS
  obtain ⟨_, y1, _, yz⟩ := blk3 hS
  have yz1 := yz 1
  refine planZ_last rfl (by kernel_rfl) (by decide) (by rfl) (fun K hK => ?_)
  clear hS yz
  go_simp
  refine hK.out _ _ ?_
  clear K hK
  simp only [Act.put, List.setIfInBounds_toArray, List.set_cons_zero, List.set_cons_succ]
  refine planZ_done (by kernel_rfl) (NoPanic.normal ?_)
  clear y1 yz1
  go_wp2
  go_ret
  have hsz2 : w1.heap.size ≤ w2.heap.size := K2.out.size
  have hb3 : ∀ k, v3.ownBlock = some k → w2.heap.size ≤ k := fun k hk => by
    have := O3.out.2 k hk
    rcases this with h | h
    · simp [Value.ownBlock] at h; omega
    · simp at h; omega
  have KA : Kp M w1 (w2.alloc (.cells #[] 54)) := (K2.out.mono (fun k _ h => h.elim)).alloc _
  have KB := KA.grown G3.out (fun k hk => .inr (by simp [Value.ownBlock] at hk; omega))
  have KC := KB.grown G4.out (fun k hk => .inr (by have := hb3 k hk; omega))
  have KD := KC.setCell (p := ⟨m, 1, none⟩) (.inl S0.out.mm) (.slice A4 (q + (nL - (q + 1))) c4)
  have hlen : q + (nL - (q + 1)) = L'.length := by rw [HL'.out, List.length_append, List.length_take, List.length_drop]; have := HN.out; omega
  refine ⟨rfl, ⟨.slice A4 (q + (nL - (q + 1))) c4, by rw [blk_set HS.out]; rfl, .inl S0.out.mm, Gr.lt S0.out.lt KD.size, ?_⟩, KD⟩
  have o := O4.out.only.kp ((Kp.refl (Is m) w4).set 1 (.slice A4 (q + (nL - (q + 1))) c4)) (fun k hk he => own_ne O4.out HS.out (by decide) (by have e : k = m := he; exact e ▸ hk.2))
  rw [← ptCells_append, ← HL'.out, hlen] at o
  rw [hlen]
  rw [hlen] at KD
  refine o.mono (fun k hlt hk => .inr ⟨?_, hlt⟩)
  have hs3 : w2.heap.size + 1 ≤ w3.heap.size := by have := G3.out.size; simp at this; omega
  rcases hk.1 with h | h
  · have := hb3 k h; omega
  · have h' : w3.heap.size ≤ k := h
    omega
theorem pDel_at {L : List Pt} (hs : PSorted L) {q : Nat} {x : Pt} (h : L[q]? = some x) : pDel x.n L = L.take q ++ L.drop (q + 1) := by
  have e := split_at h
  conv => lhs; rw [e]
  exact pDel_mid (by rw [← e]; exact hs)
/-- Remove. -/
theorem refRemove_any (w : World) (m : Nat) (M : Nat → Prop) (room : Int) (down : Bool) (L : List Pt) (h : Ref w m M room down L) (hs : PSorted L) (hL : L.length ≤ 1000000000) (n : Int) (c : Nat) (L' : List Pt) (hc : c = partCode down L n) (hL' : L' = if c = 0 then pDel n L else L) :
    Calls Try.prog 19 #[.pointer (some ⟨m, 0, none⟩), .int .i64 n] w fun e w' => e = .returned (.int .i64 (c : Int)) ∧ Ref w' m (Gr M w w') room down L' ∧ Kp M w w' := by
  by_cases h0 : c = 0
  · subst h0
    obtain ⟨hd, q, x, hf, hx, hxn, hq⟩ := partCode_at hc.symm
    subst hd
    rw [if_pos rfl, ← hxn, pDel_at hs hx] at hL'
    exact rremove_ok w m M room L h hL n q x hq hx L' hL'
  · rw [if_neg h0] at hL'
    subst hL'
    refine (rremove_bad w m M room down L' h hL n c hc h0).mono ?_
    rintro e w1 ⟨rfl, rfl⟩
    exact ⟨rfl, h.mono (fun k hk => .inl hk) (Gr.lt h.lt (Nat.le_refl _)), Kp.refl _ _⟩
end Go.Proofs.Ytnonbimelkagpaa
