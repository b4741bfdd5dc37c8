/- journal: Append, a record onto the last part, or onto a new one. -/
import Derived.Test.YtnonbimelkagpaaJourE
import Derived.Test.YtnonbimelkagpaaPlanL
namespace Go.Proofs.Ytnonbimelkagpaa
set_option linter.unusedVariables false
set_option linter.unusedSimpArgs false
open Go.RowKit Go.Lib

/-- A slice reads as the string t. -/
theorem convJ {F : Nat → Prop} {A : Option Addr} {n c : Nat} {l : List UInt8} (hl : l.length = n) {T : ByteArray} (hT : T.data.toList = l) {w' : World} (h' : Rd w' F A (u8s l)) : (convert 22 9 (.slice A n c)).run Try.prog w' = .ok (.string T) w' := by
  have e : (⟨l.toArray⟩ : ByteArray) = T := by rw [← hT]
  rw [← e]
  exact run_conv_str w' 22 9 5 Try.underlying22 Try.underlying5 Try.underlying9 n c l hl h'
theorem infoI : (Try.prog.info? 3).map (fun i => (i.zero, i.size, i.bytes)) = some (some (.int .i64 0), 1, 8) := by kernel_rfl
theorem own_apart {w : World} {F G : Nat → Prop} {E E' sz sz' n n' k : Nat} {v v' : Value} {cs cs' : List Value} (h : Own w F E sz v n cs) (h' : Own w G E' sz' v' n' cs') (hE : E ≠ E') (hk : v.ownBlock = some k) (hk' : v'.ownBlock = some k) : False := by
  rcases h.1.2 with ⟨rfl, _⟩ | ⟨g, cap, cur, rfl, _, hg, _⟩
  · simp [Value.ownBlock] at hk
  · rcases h'.1.2 with ⟨rfl, _⟩ | ⟨g', cap', cur', rfl, _, hg', _⟩
    · simp [Value.ownBlock] at hk'
    · simp [Value.ownBlock] at hk hk'
      subst hk
      subst hk'
      rw [hg] at hg'
      injection hg' with hg'
      injection hg' with h1 h2
      exact hE h2
theorem clone_n (F : Nat → Prop) (A : Option Addr) (n c : Nat) (l : List UInt8) (hn : l.length = n) (h1 : 1 ≤ n) (hm : n ≤ 1000000000) (w : World) (hr : Rd w F A (u8s l)) :
    Calls Try.prog 34 #[.slice A n c] w fun e w' => ∃ v, e = .returned v ∧ Own w' (New w) 5 1 v n (u8s l) ∧ Kp No w w' := by
  subst hn
  exact clone_any F A c l w hr hm (fun h => by
    subst h
    obtain ⟨_, e, _⟩ := hr (by rw [u8s_length]; omega)
    cases e)
theorem kp_two {S T U : Nat → Prop} {w w1 w2 : World} (h : Kp S w w1) (k : Kp T w1 w2) (hs : ∀ g, S g → U g) (ht : ∀ g, g < w.heap.size → T g → U g) : Kp U w w2 := (h.mono (fun g _ hg => hs g hg)).trans k ht

set_option maxHeartbeats 8000000 in
set_option maxRecDepth 100000 in
theorem jappend_same (w : World) (j : Nat) (J : Nat → Prop) (d : Nat) (D : Nat → Prop) (room : Int) (L : List Pt) (many : Int) (ps : List Int) (rs : List (List UInt8)) (h : Jr w j J d D room false L many ps rs) (hm : Mild ps) (hrs : rs.length < 1000000) (hL : L.length < 1000000000)
    (hmany : -1000000000000 ≤ many ∧ many ≤ 1000000000000) (F : Nat → Prop) (A : Option Addr) (n c : Nat) (b : List UInt8) (hr : Rd w F A (u8s b)) (hbl : b.length = n) (h1 : 1 ≤ n) (h4096 : n ≤ 4096) (hFD : ∀ k, F k → ¬ D k) (hFJ : ∀ k, F k → ¬ J k) (hFl : ∀ k, F k → k < w.heap.size)
    (hps : ps ≠ []) (hpart : jNext ps rs - jLast ps < many) (hcode : appCode false room L (jLast ps) (enc b).length = 0) :
    Calls Try.prog 28 #[.pointer (some ⟨j, 0, none⟩), .slice A n c] w fun e w' => e = .returned .nilIface ∧ (∃ J' D', Jr w' j J' d D' room false (pAppend (jLast ps) (enc b) L) many ps (rs ++ [b]) ∧ (∀ k, J' k → Gr J w w' k) ∧ (∀ k, D' k → Gr D w w' k)) ∧ Kp (fun k => D k ∨ J k) w w' := by
  obtain ⟨T, hT⟩ : ∃ T : ByteArray, T.data.toList = b := ⟨⟨b.toArray⟩, by simp⟩
  have hTz : T.size = n := by rw [← hbl, ← hT, size_data]
  have hTe : ([] ++ (num T.size ++ T.data.toList)) = enc b := by rw [hT, hTz, ← hbl]; rfl
  have henc := enc_len (r := b) (by omega)
  obtain ⟨ne, hne⟩ : ∃ m, m = (enc b).length := ⟨_, rfl⟩
  have hneb : ne ≤ 5000 := by omega
  have HV := As.mk (And.intro hT (And.intro hTz hTe))
  have NE := As.mk hne
  have HB := As.mk hbl
  have HR := As.mk hr
  have HF := As.mk hFD
  have HFl := As.mk hFl
  have HJ := As.mk hFJ
  have HLn := As.mk hL
  have HPM := As.mk hm
  have CLO := As.mk (fun w' hk => clone_n F A n c b hbl h1 (by omega) w' hk)
  have H := As.mk h
  obtain ⟨vp, vl, q1, q2, q3, q4, q5, q6, q7⟩ := h
  obtain ⟨c0, c1, c2, c3, fz⟩ := blk4 q1
  obtain ⟨Ap, cp, rfl, _, _, i3, i4⟩ := ints_see q4
  obtain ⟨gp, rfl, hgp⟩ := i3 hps
  have hf0 := hm.first
  have hl0 := hm.last
  have F2 := As.mk (next_any w j J J _ vl ps rs c2 c3 q4 q5 hm (by omega))
  have hlen : 0 < ps.length := List.length_pos_iff.2 hps
  have hlast : ps[ps.length - 1]? = some (jLast ps) := by
    unfold jLast
    cases ps with
    | nil => exact absurd rfl hps
    | cons p r => rw [List.getLastD_cons, ← List.getLast?_eq_getElem?, List.getLast?_cons, List.getLastD_eq_getLast?]
  have hin : jLast ps ∈ ps := List.mem_of_getElem? hlast
  obtain ⟨np, hnp⟩ : ∃ m, m = ps.length := ⟨_, rfl⟩
  obtain ⟨mp, hmp⟩ : ∃ m, m = ps.length - 1 := ⟨_, rfl⟩
  have hcl := i4 gp rfl mp (jLast ps) (by rw [hmp]; exact hlast)
  obtain ⟨p, hp⟩ : ∃ p, p = jLast ps := ⟨_, rfl⟩
  obtain ⟨nx, hnx⟩ : ∃ x, x = jNext ps rs := ⟨_, rfl⟩
  have hnxb : -1000001000000 ≤ nx ∧ nx ≤ 1000001000000 := by rw [hnx]; unfold jNext; omega
  rw [← hp] at hcl hl0 hpart hcode hin
  rw [← hp]
  rw [← hnx] at F2 hpart
  rw [← hnp] at c2
  rw [← hne] at hcode
  have hnpb0 : np ≤ 1000000 := by rw [hnp]; exact hm.1
  have hw1 : (np : Int) - 1 = (mp : Int) := by omega
  have hw2 := (IntWalk.i64_in ((np : Int) - 1) (by omega)).trans hw1
  have hw3 := IntWalk.i64_in (nx - p) (by omega)
  have hk0 : (0 : Int) < (np : Int) := by omega
  have hd0 : decide ((0 : Int) < (np : Int)) = true := by rw [decide_eq_true_eq]; exact hk0
  have hd2 : decide (0 < np) = true := by rw [decide_eq_true_eq]; omega
  have hd1 : decide (nx - p < many) = true := by rw [decide_eq_true_eq]; exact hpart
  have hm0 : (0 : Int) ≤ (mp : Int) := by omega
  have hm1 : (mp : Int) < (np : Int) := by omega
  have HC := As.mk hcode
  have HN := As.mk hin
  clear q1 q2 q3 q4 q5 q6 q7 i3 i4 fz hT hTz hTe henc hne hcode hr hbl hFD hFJ hFl hin hnp hmp hp hnx hm hlast hlen hps hw1 hL hf0 hgp
  go_enter Try.func28, Try.ntmps28
  go_wp2_with (go_at_call 31; go_must (refine F2.out.mono ?_; rintro e w1 ⟨rfl, qn, rfl⟩))
  have hW1 := (Kp.refl No w).drewN qn
  refine wp_region_plan (fun w' => w'.cell? ⟨j, 2, none⟩ = some (.slice (some ⟨gp, 0, none⟩) np cp) ∧ w'.cell? ⟨j, 1, none⟩ = some (.int .i64 many) ∧ w'.cell? ⟨gp, mp, none⟩ = some (.int .i64 p)) (by kernel_rfl) ?_
  have hS : (w.drewN qn).drew.cell? ⟨j, 2, none⟩ = some (.slice (some ⟨gp, 0, none⟩) np cp) ∧ (w.drewN qn).drew.cell? ⟨j, 1, none⟩ = some (.int .i64 many) ∧ (w.drewN qn).drew.cell? ⟨gp, mp, none⟩ = some (.int .i64 p) := ⟨c2, c1, hcl⟩
  have K2 := As.mk hW1.drew
  revert hS K2
  generalize (w.drewN qn).drew = w2
  intro hS K2
  simp only [lexOf, Nat.reduceAdd, List.size_toArray, List.length_cons, List.length_nil, Array.replicate, List.replicate]
  repeat
    refine plan_take (v := ?_) rfl (by kernel_rfl) (by rfl) hS ?_ ?_
    rotate_left 1
    · intro w hSw; obtain ⟨hs1, hs2, hs3⟩ := hSw; go_simp
      try with_reducible rfl
    simp only [Act.put, List.setIfInBounds_toArray, List.set_cons_zero, List.set_cons_succ]
  refine plan_done (by kernel_rfl) (NoPanic.normal ?_)
  obtain ⟨D2, hD2⟩ : ∃ D2, D2 = D := ⟨_, rfl⟩
  have HD2 := As.mk (show ∀ k, D2 k → Gr D w w2 k by rw [hD2]; exact fun k hk => .inl hk)
  have JW := As.mk (show Jr w2 j J d D2 room false L many ps rs by rw [hD2]; exact H.out.keep K2.out)
  have RW := As.mk (HR.out.keep K2.out)
  have KW := As.mk (K2.out.mono (T := D) (fun _ _ h => h.elim))
  clear hD2 hW1 hw3 hd0 hd1 hd2 c0 c1 c2 c3 hcl F2
  obtain ⟨d2, d1, dcl⟩ := hS
  go_wp2_with fail
  clear d2 d1 dcl hw2 hm0 hm1
  have JWo := JW.out
  obtain ⟨vp, vl, q1, q2, q3, q4, q5, q6, q7⟩ := JWo
  obtain ⟨d0, d1, d2, d3, fz⟩ := blk4 q1
  obtain ⟨Ap, cp, rfl, _, _, _, _⟩ := ints_see q4
  obtain ⟨Al, cl, rfl, _, _⟩ := q5.len
  have hjD : ¬ D2 j := fun hd => q7 _ hd q2
  have HX := As.mk (And.intro q1 (And.intro q2 (And.intro q3 q7)))
  have HP := As.mk q4
  have HQ := As.mk q5
  have HK := As.mk q6
  have hFD2 := As.mk (show ∀ k, F k → ¬ D2 k from fun k hf hd => by
    rcases HD2.out k hd with h | h
    · exact HF.out k hf h
    · have := HFl.out k hf; omega)
  have CV := As.mk (fun (w' : World) (hk : Rd w' F A (u8s b)) => convJ (c := c) HB.out HV.out.1 hk)
  clear q1 q2 q3 q4 q5 q6 q7 d1 d2 d3 fz
  refine wp_region_plan (fun w' => w'.cell? ⟨j, 0, none⟩ = some (.pointer (some ⟨d, 0, none⟩)) ∧ (convert 22 9 (.slice A n c)).run Try.prog w' = .ok (.string T) w') (by kernel_rfl) ?_
  have K3 := As.mk (Kp.refl No w2).drew
  have hS : w2.drew.cell? ⟨j, 0, none⟩ = some (.pointer (some ⟨d, 0, none⟩)) ∧ (convert 22 9 (.slice A n c)).run Try.prog w2.drew = .ok (.string T) w2.drew := ⟨d0, CV.out _ (RW.out.keep K3.out)⟩
  revert hS K3
  generalize w2.drew = w3
  intro K3 hS
  simp only [lexOf, Nat.reduceAdd, List.size_toArray, List.length_cons, List.length_nil, Array.replicate, List.replicate]
  repeat
    refine plan_take (v := ?_) rfl (by kernel_rfl) (by rfl) hS ?_ ?_
    rotate_left 1
    · intro w hSw; obtain ⟨hs1, hs2⟩ := hSw; go_simp
      try with_reducible rfl
    simp only [Act.put, List.setIfInBounds_toArray, List.set_cons_zero, List.set_cons_succ]
  refine plan_do rfl (by kernel_rfl) (by rfl) (fun K hK => ?_)
  go_simp
  go_at_call 40
  refine (text_any (fun _ => False) none 0 0 [] T w3 (Rd.nil _ _ _) rfl (by decide) (by have := HV.out.2.1; omega)).mono ?_
  rw [HV.out.2.2, ← NE.out]
  rintro e w4 ⟨v4, rfl, o4, k4⟩
  obtain ⟨A4, c4, rfl, _, _, r4⟩ := o4.read
  have R4 := As.mk r4
  have K4 := As.mk (K3.out.then_ k4)
  replace hS := And.intro (k4.cell hS.1 id) (CV.out w4 (RW.out.keep K4.out))
  refine hK.out _ _ hS ?_
  clear K hK o4 r4 k4
  simp only [Act.put, List.setIfInBounds_toArray, List.set_cons_zero, List.set_cons_succ]
  refine plan_do rfl (by kernel_rfl) (by rfl) (fun K hK => ?_)
  go_simp
  go_at_call 8
  refine (append_at .nilIface (pAppend p (enc b) L) w4 d D2 room false L (HK.out.keep K4.out) HLn.out p (by omega) _ A4 ne c4 (enc b) R4.out NE.out.symm (by omega) (by rw [HC.out]; rfl) (by rw [HC.out, if_pos rfl])).mono ?_
  rintro e w5 ⟨rfl, h5, k5⟩
  have D5 := As.mk h5
  have K5 := As.mk ((K4.out.mono (T := D2) (fun _ _ h => h.elim)).trans k5 (fun _ _ h => h))
  have S4 := As.mk K4.out.size
  replace hS := And.intro (k5.cell hS.1 hjD) (CV.out w5 (RW.out.kp K5.out hFD2.out))
  refine hK.out _ _ hS ?_
  clear K hK h5 k5
  simp only [Act.put, List.setIfInBounds_toArray, List.set_cons_zero, List.set_cons_succ]
  repeat
    refine plan_take (v := ?_) rfl (by kernel_rfl) (by rfl) hS ?_ ?_
    rotate_left 1
    · intro w hSw; go_simp
      try with_reducible rfl
    simp only [Act.put, List.setIfInBounds_toArray, List.set_cons_zero, List.set_cons_succ]
  refine plan_done (by kernel_rfl) (NoPanic.normal ?_)
  have hJD : ∀ k, J k → ¬ D2 k := fun k hj hd => HX.out.2.2.2 k hd hj
  have B5 := As.mk (K5.out.heap HX.out.1 hjD)
  have HP5 := As.mk (HP.out.kp K5.out hJD)
  have HQ5 := As.mk (HQ.out.kp K5.out hJD)
  have R5 := As.mk (RW.out.kp K5.out hFD2.out)
  have hj5 : j < w5.heap.size := blk_lt B5.out
  obtain ⟨e0, e1, e2, e3, fz⟩ := blk4 B5.out
  have fz2 := fz 2
  clear hS d0 fz hJD
  have hnpb := HPM.out.1
  go_wp2_with (go_at_call 41; go_must (refine (contains_any w5 J _ ps HP5.out HPM.out.1 p true (decide_eq_true HN.out).symm).mono ?_; rintro e w6 ⟨rfl, rfl⟩))
  obtain ⟨w8, hw8⟩ : ∃ w8, w8 = w6 := ⟨_, rfl⟩
  have K8 := As.mk (show Kp J w6 w8 by subst hw8; exact Kp.refl _ _)
  have B8 := As.mk (show w8.heap[j]? = some (.cells #[.pointer (some ⟨d, 0, none⟩), .int .i64 many, .slice Ap ps.length cp, .slice Al rs.length cl] 80 (0, 0)) by rw [hw8]; exact B5.out)
  have HP8 := As.mk (show Own w8 (fun k => J k ∨ w6.heap.size ≤ k) 3 1 (.slice Ap ps.length cp) ps.length (ints ps) by rw [hw8]; exact HP5.out.mono (fun k _ hk => .inl hk))
  have HQ8 := As.mk (show Recs w8 J (.slice Al rs.length cl) rs by rw [hw8]; exact HQ5.out)
  have R8 := As.mk (show Rd w8 F A (u8s b) by rw [hw8]; exact R5.out)
  rw [← hw8]
  clear hw8
  obtain ⟨acs, ha1, ha2⟩ := HQ8.out
  have RA := As.mk ha1
  have RB := As.mk ha2
  clear ha1 ha2 e0 e1 e2 e3 fz2
  refine wp_region_planL [11] (fun w' => w'.heap[j]? = some (.cells #[.pointer (some ⟨d, 0, none⟩), .int .i64 many, (.slice Ap ps.length cp), .slice Al rs.length cl] 80 (0, 0))) (by kernel_rfl) ?_
  have hS : w8.drew.heap[j]? = some (.cells #[.pointer (some ⟨d, 0, none⟩), .int .i64 many, (.slice Ap ps.length cp), .slice Al rs.length cl] 80 (0, 0)) := B8.out
  have K9 := As.mk (Kp.refl No w8).drew
  revert hS K9
  generalize w8.drew = w9
  intro hS K9
  simp only [lexOf, Nat.reduceAdd, List.size_toArray, List.length_cons, List.length_nil, Array.replicate, List.replicate]
  repeat
    refine planL_take (v := ?_) rfl (by kernel_rfl) (by rfl) hS ?_ ?_
    rotate_left 1
    · intro w hSw; obtain ⟨_, _, _, hs3, _⟩ := blk4 hSw; go_simp
      try with_reducible rfl
    simp only [Act.put, List.setIfInBounds_toArray, List.set_cons_zero, List.set_cons_succ]
  refine planL_do rfl (by kernel_rfl) (by rfl) (fun K hK => ?_)
  go_simp
  go_at_call 34
  refine (CLO.out w9 (R8.out.keep K9.out)).mono ?_
  rintro e w10 ⟨v10, rfl, o10, k10⟩
  have O10 := As.mk o10
  obtain ⟨A10, c10, rfl, _, _, _⟩ := o10.read
  have K10 := As.mk (K9.out.then_ k10)
  have S9 := As.mk K9.out.size
  replace hS := k10.heap hS id
  refine hK.out _ _ hS ?_
  clear K hK o10 k10
  simp only [Act.put, List.setIfInBounds_toArray, List.set_cons_zero, List.set_cons_succ]
  refine planL_do rfl (by kernel_rfl) (by rfl) (fun K hK => ?_)
  go_simp
  replace hS := ((Kp.refl No w10).alloc (.cells #[.slice A10 n c10] 22)).heap hS id
  refine hK.out _ _ hS ?_
  clear K hK
  simp only [Act.put, List.setIfInBounds_toArray, List.set_cons_zero, List.set_cons_succ]
  refine planL_do rfl (by kernel_rfl) (by rfl) (fun K hK => ?_)
  refine app_wp _ _ _ rfl 22 _ 1 24 infoRecs Try.underlying56 rfl (by decide) (.slice Al rs.length cl) rs.length acs rfl (RA.out.keep (K10.out.alloc _)) (some ⟨w10.heap.size, 0, none⟩) 1 1 [.slice A10 n c10] rfl (F := fun _ => True) ?zf rfl ?zg ?zh ?zi ?_
  case zf => exact fun _ => ⟨_, rfl, trivial, World.news_of_block (heap_alloc_new w10 _)⟩
  case zg => intro u hu; simp at hu; subst hu; rfl
  case zh => unfold maxLen; omega
  case zi => omega
  intro v12 w12 o12 g12
  have hne12 := fun (e : some j = (Value.slice Al rs.length cl).ownBlock) => own_ne RA.out B8.out (by decide) e.symm
  replace hS := (g12.block j (blk_lt hS) hne12).trans hS
  obtain ⟨A12, c12, rfl, _, _, _⟩ := o12.read
  have O12 := As.mk o12
  have G12 := As.mk g12
  refine hK.out _ _ hS ?_
  clear K hK o12 g12
  simp only [Act.put, List.setIfInBounds_toArray, List.set_cons_zero, List.set_cons_succ]
  refine planL_do rfl (by kernel_rfl) (by rfl) (fun K hK => ?_)
  go_simp
  refine hK.out _ _ hS ?_
  clear K hK
  simp only [Act.put, List.setIfInBounds_toArray, List.set_cons_zero, List.set_cons_succ]
  refine planL_do rfl (by kernel_rfl) (by rfl) (fun K hK => ?_)
  go_simp
  refine hK.out _ _ hS ?_
  clear K hK
  simp only [Act.put, List.setIfInBounds_toArray, List.set_cons_zero, List.set_cons_succ]
  have HS := As.mk hS
  obtain ⟨_, _, _, y3, yz⟩ := blk4 hS
  have yz3 := yz 3
  refine planL_last rfl (by kernel_rfl) (by decide) (by rfl) (fun K hK => ?_)
  clear hS yz
  go_simp
  refine hK.out _ _ ?_
  clear K hK
  simp only [Act.put, List.setIfInBounds_toArray, List.set_cons_zero, List.set_cons_succ]
  refine planL_done (by kernel_rfl) (NoPanic.normal ?_)
  clear y3 yz3
  go_wp2
  go_ret
  have hT1 : Kp No w10 (w10.alloc (.cells #[.slice A10 n c10] 22)) := (Kp.refl _ _).alloc _
  have KA : Kp No w8 (w10.alloc (.cells #[.slice A10 n c10] 22)) := K10.out.then_ hT1
  have hgg : Kp (fun k => k = j ∨ (Value.slice Al rs.length cl).ownBlock = some k) (w10.alloc (.cells #[.slice A10 n c10] 22)) (w12.setCell ⟨j, 3, none⟩ (.slice A12 (rs.length + 1) c12)) :=
    (((Kp.refl _ _).grown G12.out (fun k hk => .inl (.inr hk)))).setCell (p := ⟨j, 3, none⟩) (.inl (.inl rfl)) _
  have hs6 := K8.out.size
  have hs10 := K10.out.size
  have hsa : (w10.alloc (.cells #[.slice A10 n c10] 22)).heap.size = w10.heap.size + 1 := by simp
  have hsf := hgg.size
  have KJ : Kp J w8 (w12.setCell ⟨j, 3, none⟩ (.slice A12 (rs.length + 1) c12)) := kp_two KA hgg (fun _ h => h.elim) (fun k _ hk => by
    rcases hk with rfl | hk
    · exact HX.out.2.1
    · exact RA.out.2 k hk)
  have KJ6 : Kp J w6 (w12.setCell ⟨j, 3, none⟩ (.slice A12 (rs.length + 1) c12)) := K8.out.trans KJ (fun _ _ h => h)
  have hJl : ∀ k, J k → k < w6.heap.size := fun k hk => Nat.lt_of_lt_of_le (HX.out.2.2.1 k hk) K5.out.size
  have r1 := RA.out.keep KA
  have r2 : ∀ (i : Nat) (r : List UInt8), rs[i]? = some r → ∃ u, acs[i]? = some u ∧ Rec1 (w10.alloc (.cells #[.slice A10 n c10] 22)) (fun k => J k ∨ (w6.heap.size ≤ k)) u r := fun i r hi => by
    obtain ⟨u, h1, h2⟩ := RB.out i r hi
    exact ⟨u, h1, (h2.kp KA (fun _ _ _ => id)).mono (fun k _ hk => .inl hk)⟩
  have r3 : Rec1 (w10.alloc (.cells #[.slice A10 n c10] 22)) (fun k => J k ∨ (w6.heap.size ≤ k)) (.slice A10 n c10) b := by
    refine ⟨A10, c10, by rw [HB.out], O10.out.none_cap, (O10.out.rd8.keep hT1).mono (fun k _ hk => .inr ?_)⟩
    have hk' : w9.heap.size ≤ k := hk
    have := S9.out
    omega
  have r4 : Own (w12.setCell ⟨j, 3, none⟩ (.slice A12 (rs.length + 1) c12)) (fun k => J k ∨ (w6.heap.size ≤ k)) 22 1 (.slice A12 (rs.length + 1) c12) (rs.length + 1) (acs ++ [.slice A10 n c10]) :=
    (O12.out.only.kp ((Kp.refl (Is j) w12).set 3 _) (fun k hk he => own_ne O12.out HS.out (by decide) (by have e : k = j := he; exact e ▸ hk.2))).mono (fun k _ hk => by
      rcases hk.1 with h | h
      · exact .inl (RA.out.2 k h)
      · right; omega)
  have r5 := Recs.snoc (r1.mono (G := fun k => J k ∨ (w6.heap.size ≤ k)) (fun k _ hk => .inl hk)) r2 r3 r4 hgg (fun k _ hu he => by
    rcases he with he | he
    · exact hu.ne (KA.heap B8.out id) (by decide) he
    · exact own_u8 r1 (by decide) hu he) (fun _ h => h)
  have r6 : Own (w12.setCell ⟨j, 3, none⟩ (.slice A12 (rs.length + 1) c12)) (fun k => J k ∨ w6.heap.size ≤ k) 3 1 (.slice Ap ps.length cp) ps.length (ints ps) :=
    ((HP8.out.keep KA).only.kp hgg (fun k hk he => by
      rcases he with he | he
      · exact own_ne (HP8.out.keep KA) (KA.heap B8.out id) (by decide) (he ▸ hk.2)
      · exact own_apart (HP8.out.keep KA) r1 (by decide) hk.2 he)).mono (fun k _ hk => hk.1)
  have hK5 : Kp (fun k => D k ∨ J k) w (w12.setCell ⟨j, 3, none⟩ (.slice A12 (rs.length + 1) c12)) :=
    kp_two (KW.out.trans (K5.out.mono (T := fun k => D k ∨ w.heap.size ≤ k) (fun k _ hk => by
      rcases HD2.out k hk with h | h
      · exact .inl h
      · exact .inr h.1)) (fun g hg h => by
        rcases h with h | h
        · exact h
        · omega)) KJ6 (fun _ h => .inl h) (fun _ _ h => .inr h)
  have hws := KW.out.size
  have hs4 := S4.out
  have hs5 := K5.out.size
  refine ⟨rfl, ⟨fun k => J k ∨ (w6.heap.size ≤ k ∧ k < (w12.setCell ⟨j, 3, none⟩ (.slice A12 (rs.length + 1) c12)).heap.size), Gr D2 w4 w6, ?_, ?_, ?_⟩, hK5⟩
  · refine ⟨(.slice Ap ps.length cp), .slice A12 (rs.length + 1) c12, by rw [blk_set HS.out]; rfl, .inl HX.out.2.1, ?_, r6.mono (fun k hlt hk => ?_), r5.mono (fun k hlt hk => ?_), ?_, ?_⟩
    · rintro k (hk | hk)
      · have := hJl k hk; omega
      · exact hk.2
    · rcases hk with hk | hk
      · exact .inl hk
      · exact .inr ⟨hk, hlt⟩
    · rcases hk with hk | hk
      · exact .inl hk
      · exact .inr ⟨hk, hlt⟩
    · refine D5.out.kp KJ6 (fun k hk hj => ?_)
      rcases hk with hk | hk
      · exact HX.out.2.2.2 k hk hj
      · have := HX.out.2.2.1 k hj; omega
    · rintro k (hk | hk) (hj | hj)
      · exact HX.out.2.2.2 k hk hj
      · have := HK.out.lt k hk; omega
      · have := HX.out.2.2.1 k hj; omega
      · omega
  · rintro k (hk | hk)
    · exact .inl hk
    · exact .inr ⟨by omega, hk.2⟩
  · rintro k (hk | hk)
    · rcases HD2.out k hk with h | h
      · exact .inl h
      · exact .inr ⟨h.1, by omega⟩
    · exact .inr ⟨by omega, by omega⟩
end Go.Proofs.Ytnonbimelkagpaa
