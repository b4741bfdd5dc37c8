/- journal: load. -/
import Derived.Test.YtnonbimelkagpaaJourP
import Derived.Test.YtnonbimelkagpaaJourF
import Derived.Test.YtnonbimelkagpaaPlanZ
namespace Go.Proofs.Ytnonbimelkagpaa
set_option linter.unusedVariables false
set_option linter.unusedSimpArgs false
open Go.RowKit Go.Lib

/-- What loading comes to: the parts that are left, their numbers, the records. -/
def loadGo : List Pt → Bool → List Int → List (List UInt8) → List Pt × List Int × List (List UInt8)
  | [], _, ps, rs => ([], ps, rs)
  | x :: r, false, ps, rs => loadGo r false ps rs
  | x :: r, true, ps, rs => if ps ≠ [] ∧ x.n ≠ jNext ps rs then loadGo r false ps rs else
    (⟨x.n, x.b.take (recsEnd x.b), recsEnd x.b⟩ :: (loadGo r true (ps ++ [x.n]) (rs ++ recsOf x.b)).1, (loadGo r true (ps ++ [x.n]) (rs ++ recsOf x.b)).2)
theorem loadGo_false : ∀ (L : List Pt) (ps : List Int) (rs : List (List UInt8)), loadGo L false ps rs = ([], ps, rs)
  | [], _, _ => rfl
  | _ :: r, ps, rs => loadGo_false r ps rs
theorem pFind_mid {L1 r : List Pt} {x : Pt} (h : PSorted (L1 ++ x :: r)) : pFind x.n (L1 ++ x :: r) = some x := by
  obtain ⟨_, _, h3⟩ := List.pairwise_append.1 h
  unfold pFind
  rw [List.find?_append]
  have : L1.find? (fun z => z.n == x.n) = none := by
    refine List.find?_eq_none.2 fun z hz => ?_
    have := h3 z hz x (List.mem_cons.2 (.inl rfl))
    simp; omega
  rw [this]
  simp
theorem pDel_mid {L1 r : List Pt} {x : Pt} (h : PSorted (L1 ++ x :: r)) : pDel x.n (L1 ++ x :: r) = L1 ++ r := by
  obtain ⟨_, h2, h3⟩ := List.pairwise_append.1 h
  obtain ⟨h4, _⟩ := List.pairwise_cons.1 h2
  unfold pDel
  rw [List.filter_append, List.filter_cons_of_neg (by simp)]
  congr 1
  · refine List.filter_eq_self.2 fun z hz => ?_
    have := h3 z hz x (List.mem_cons.2 (.inl rfl))
    simp; omega
  · refine List.filter_eq_self.2 fun z hz => ?_
    have := h4 z hz
    simp; omega
/-- Two rows of records, one behind the other. -/
theorem Recs.cat {F G S : Nat → Prop} {w w1 : World} {v v1 : Value} {rs qs : List (List UInt8)} {cs ds : List Value} (hown : Own w F 22 1 v rs.length cs) (h : ∀ (i : Nat) (r : List UInt8), rs[i]? = some r → ∃ u, cs[i]? = some u ∧ Rec1 w F u r)
    (hq : ∀ (i : Nat) (r : List UInt8), qs[i]? = some r → ∃ u, ds[i]? = some u ∧ Rec1 w F u r) (h1 : Own w1 G 22 1 v1 (rs.length + qs.length) (cs ++ ds)) (hk : Kp S w w1) (hn : ∀ k, F k → U8 w k → ¬ S k) (hG : ∀ k, F k → G k) : Recs w1 G v1 (rs ++ qs) := by
  have hl : cs.length = rs.length := by simpa using hown.len
  refine ⟨cs ++ ds, by rw [List.length_append]; exact h1, fun i q hi => ?_⟩
  rcases Nat.lt_or_ge i rs.length with hlt | hge
  · rw [List.getElem?_append_left hlt] at hi
    obtain ⟨u', h3, h4⟩ := h i q hi
    exact ⟨u', by rw [List.getElem?_append_left (by omega)]; exact h3, (h4.kp hk hn).mono (fun k _ hf => hG k hf)⟩
  · rw [List.getElem?_append_right hge] at hi
    obtain ⟨u', h3, h4⟩ := hq _ q hi
    exact ⟨u', by rw [List.getElem?_append_right (by omega), hl]; exact h3, (h4.kp hk hn).mono (fun k _ hf => hG k hf)⟩
theorem cut_at (V : Value) (L' : List Pt) (w : World) (d : Nat) (D : Nat → Prop) (room : Int) (down : Bool) (L : List Pt) (h : Disk w d D room down L) (n k : Int) (hn : -9223372036854775808 ≤ n ∧ n ≤ 9223372036854775807)
    (hV : errV (cutCode down L n k) = V) (hL' : (if cutCode down L n k = 0 then pCut n k.toNat L else L) = L') :
    Calls Try.prog 16 #[.pointer (some ⟨d, 0, none⟩), .int .i64 n, .int .i64 k] w fun e w' => e = .returned V ∧ Disk w' d (Gr D w w') room down L' ∧ Kp D w w' := by
  subst hV; subst hL'
  exact disk_cut w d D room down L h n k hn
theorem remove_at (V : Value) (L' : List Pt) (w : World) (d : Nat) (D : Nat → Prop) (room : Int) (down : Bool) (L : List Pt) (h : Disk w d D room down L) (n : Int) (hn : -9223372036854775808 ≤ n ∧ n ≤ 9223372036854775807)
    (hV : errV (partCode down L n) = V) (hL' : (if partCode down L n = 0 then pDel n L else L) = L') :
    Calls Try.prog 18 #[.pointer (some ⟨d, 0, none⟩), .int .i64 n] w fun e w' => e = .returned V ∧ Disk w' d (Gr D w w') room down L' ∧ Kp D w w' := by
  subst hV; subst hL'
  exact disk_remove w d D room down L h n hn
theorem Mild.snoc {ps : List Int} {p : Int} (h : Mild ps) (hl : ps.length < 1000000) (hp : -1000000000000 ≤ p ∧ p ≤ 1000000000000) : Mild (ps ++ [p]) := by
  refine ⟨by simp; omega, fun q hq => ?_⟩
  rcases List.mem_append.1 hq with hq | hq
  · exact h.2 q hq
  · rw [List.mem_singleton.1 hq]; exact hp

/-- What the loop of load holds. -/
structure LoadAt (w1 wr : World) (j : Nat) (J : Nat → Prop) (d : Nat) (D : Nat → Prop) (room : Int) (many : Int) (L : List Pt) (i : Nat) (counts : Bool) : Prop where
  st : ∃ (L1 : List Pt) (ps : List Int) (rs : List (List UInt8)) (J' D' : Nat → Prop), Jr wr j J' d D' room false (L1 ++ L.drop i) many ps rs ∧ (∀ k, J' k → Gr J w1 wr k) ∧ (∀ k, D' k → Gr D w1 wr k) ∧ Kp (fun k => D k ∨ J k) w1 wr ∧
    (L1 ++ (loadGo (L.drop i) counts ps rs).1, (loadGo (L.drop i) counts ps rs).2) = loadGo L true [] [] ∧ Mild ps ∧ (counts = true → ps.length = i) ∧ ps.length ≤ i ∧ rs.length + pUsed (L.drop i) ≤ 65536

set_option maxHeartbeats 8000000 in
set_option maxRecDepth 100000 in
theorem load_any (w : World) (j : Nat) (J : Nat → Prop) (d : Nat) (D : Nat → Prop) (room : Int) (L : List Pt) (many : Int) (h : Jr w j J d D room false L many [] []) (hL : L.length ≤ 100000) (hLn : ∀ x ∈ L, -1000000000000 ≤ x.n ∧ x.n ≤ 1000000000000) :
    Calls Try.prog 39 #[.pointer (some ⟨j, 0, none⟩)] w fun e w' => e = .returned .nilIface ∧ (∃ J' D', Jr w' j J' d D' room false (loadGo L true [] []).1 many (loadGo L true [] []).2.1 (loadGo L true [] []).2.2 ∧ (∀ k, J' k → Gr J w w' k) ∧ (∀ k, D' k → Gr D w w' k)) ∧ Kp (fun k => D k ∨ J k) w w' := by
  have H := As.mk h
  have HLn := As.mk hLn
  obtain ⟨vp, vl, q1, q2, q3, q4, q5, q6, q7⟩ := h
  obtain ⟨c0, c1, c2, c3, fz⟩ := blk4 q1
  have HQ := As.mk q6
  have HX := As.mk (And.intro q2 (And.intro q3 q7))
  obtain ⟨nL, hnL⟩ : ∃ n, n = L.length := ⟨_, rfl⟩
  have NL := As.mk hnL
  rw [← hnL] at hL
  clear q1 q2 q3 q4 q5 q6 q7 c1 c2 c3 fz hLn hnL
  go_enter Try.func39, Try.ntmps39
  go_wp2_with (go_at_call 25; go_must (
    refine (disk_parts w d D room false L HQ.out (by have := NL.out; omega)).mono ?_
    rw [← NL.out]
    rintro e w1 ⟨v, rfl, ho, hk⟩
    have O1 := As.mk ho
    obtain ⟨A1, cc1, rfl, _, _, hrd⟩ := ho.read
    have R1 := As.mk hrd
    have K1 := As.mk hk
    clear ho hk hrd))
  go_loopw [3, 18] (fun vc vi wr => ∃ (i : Nat) (counts : Bool), vi = .int .i64 (i : Int) ∧ vc = .bool counts ∧ i ≤ nL ∧ LoadAt w1 wr j J d D room many L i counts) (fun _ vi _ => nL - (intOf vi).toNat)
  case atStart =>
    refine ⟨0, true, rfl, rfl, Nat.zero_le _, ⟨[], [], [], J, D, H.out.keep K1.out, fun k hk => .inl hk, fun k hk => .inl hk, Kp.refl _ _, rfl, ⟨by simp, fun p hp => by cases hp⟩, fun _ => rfl, Nat.le_refl _, ?_⟩⟩
    have := HQ.out.room_le
    simp
    omega
  case round =>
    obtain ⟨i, counts, rfl, rfl, hi, LA⟩ := hrel
    by_cases hlt : i < nL
    case neg =>
      have hge : ¬ i < nL := hlt
      have E1 := As.mk (show L.drop i = [] from List.drop_of_length_le (by have := NL.out; omega))
      go_wp2
      go_ret
      obtain ⟨L1, ps, rs, J', D', g1, g2, g3, g4, g5, _⟩ := LA.st
      rw [E1.out] at g1 g5
      simp only [loadGo, List.append_nil] at g1 g5
      rw [← g5]
      have hs := K1.out.size
      refine ⟨rfl, ⟨J', D', g1, fun k hk => ?_, fun k hk => ?_⟩, (K1.out.mono (fun _ _ h => h.elim)).trans g4 (fun _ _ h => h)⟩
      · rcases g2 k hk with h | h
        · exact .inl h
        · exact .inr ⟨by omega, h.2⟩
      · rcases g3 k hk with h | h
        · exact .inl h
        · exact .inr ⟨by omega, h.2⟩
    case pos =>
      obtain ⟨x, hx⟩ : ∃ x, L[i]? = some x := ⟨_, List.getElem?_eq_getElem (by have := NL.out; omega)⟩
      have hdrop : L.drop i = x :: L.drop (i + 1) := by
        obtain ⟨hl, rfl⟩ := List.getElem?_eq_some_iff.1 hx
        exact List.drop_eq_getElem_cons hl
      have hxn := HLn.out x (List.mem_of_getElem? hx)
      obtain ⟨L1, ps, rs, J', D', g1, g2, g3, g4, g5, g6, g7, g8, g9⟩ := LA.st
      rw [hdrop] at g1 g5 g9
      obtain ⟨r, hr⟩ : ∃ r, r = L.drop (i + 1) := ⟨_, rfl⟩
      rw [← hr] at g1 g5 g9
      obtain ⟨g, rfl, hg⟩ : ∃ g, A1 = some ⟨g, 0, none⟩ ∧ w.heap.size ≤ g := by
        rcases O1.out.1.2 with ⟨he, h0⟩ | ⟨g, cap, cur, he, hb, hh, _⟩
        · omega
        · injection he with e1 e2 e3
          subst e1
          exact ⟨g, rfl, O1.out.2 g rfl⟩
      have hrow : wr.cell? ⟨g, i, none⟩ = some (.int .i64 x.n) := by
        obtain ⟨ad, e, hf, hc⟩ := R1.out.at_ (j := i) (u := .int .i64 x.n) (by rw [List.getElem?_map, hx]; rfl)
        injection e with e
        subst e
        rw [add_plain', Nat.zero_add] at hc
        refine g4.cell hc (fun h => ?_)
        have h' : D g ∨ J g := h
        rcases h' with h | h
        · have := HQ.out.lt _ h; omega
        · have := HX.out.2.1 _ h; omega
      have hsort := g1.dsk.sorted
      have hfind := pFind_mid hsort
      have hroom := g1.dsk.room_le
      have hpc : partCode false (L1 ++ x :: r) x.n = 0 := by unfold partCode; rw [hfind]; rfl
      have hpb : pBytes (L1 ++ x :: r) x.n = x.b := by unfold pBytes; rw [hfind]
      have hused : pUsed (x :: r) = x.b.length + pUsed r := by simp [pUsed]
      have hul : x.b.length ≤ 65536 := by omega
      obtain ⟨xn, hxn'⟩ : ∃ z, z = x.n := ⟨_, rfl⟩
      rw [← hxn'] at hrow hxn
      have XN := As.mk hxn'
      have JW := As.mk g1
      have GG := As.mk (And.intro g2 (And.intro g3 (And.intro g4 (And.intro g5 (And.intro g6 (And.intro g7 (And.intro g8 g9)))))))
      obtain ⟨vp, vl, q1, q2, q3, q4, q5, q6, q7⟩ := g1
      obtain ⟨c0, c1, c2, c3, fz⟩ := blk4 q1
      have F2 := As.mk (fun (hm : rs.length ≤ 1000000) => next_any wr j J' J' vp vl ps rs c2 c3 q4 q5 g6 hm)
      have hrsl : rs.length ≤ 65536 := by omega
      obtain ⟨nx, hnx⟩ : ∃ z, z = jNext ps rs := ⟨_, rfl⟩
      have NX := As.mk hnx
      rw [← hnx] at F2
      have hjJ : J' j := q2
      have hlenps := g7
      have HPC := As.mk (And.intro hsort (And.intro hpc hpb))
      have RR := As.mk (And.intro hr (And.intro hx hdrop))
      clear g2 g3 g4 g5 g6 g7 g9 q1 q2 q3 q4 q5 q6 q7 c1 c2 c3 fz hr hx hdrop hsort hfind hpc hpb hused hnx hxn' LA
      cases counts with
      | false =>
        clear hlenps
        have K2 := As.mk (Kp.refl No wr)
        go_wp2_with (first
          | (go_at_call 31; go_must (refine (F2.out (by omega)).mono ?_; rintro e w2 ⟨rfl, qn, rfl⟩; have K2 := As.mk ((Kp.refl No wr).drewN qn)))
          | (go_at_call 18; go_must (
              refine (remove_at .nilIface (L1 ++ r) _ d D' room false (L1 ++ x :: r) (JW.out.dsk.keep K2.out) xn (by omega) (by rw [XN.out, HPC.out.2.1]; rfl) (by rw [XN.out, HPC.out.2.1, if_pos rfl]; exact pDel_mid HPC.out.1)).mono ?_
              rintro e w3 ⟨rfl, h3, k3⟩
              have D3 := As.mk h3
              have K3 := As.mk k3
              clear h3 k3)))
        go_roundw
        case rel =>
          obtain ⟨g2, g3, g4, g5, g6, g7, g8, g9⟩ := GG.out
          have hlg : loadGo (x :: r) false ps rs = loadGo r false ps rs := by rfl
          rw [hlg] at g5
          have hsz := (K2.out.size)
          have hsz3 := K3.out.size
          refine ⟨i + 1, false, by go_num, rfl, by omega, ⟨L1, ps, rs, J', Gr D' wr w3, ?_, ?_, ?_, ?_, ?_, g6, (fun h => by cases h), by omega, ?_⟩⟩
          · rw [← RR.out.1]
            exact (JW.out.keep K2.out).disk K3.out D3.out
          · intro k hk
            rcases g2 k hk with h | h
            · exact .inl h
            · exact .inr ⟨h.1, by omega⟩
          · rintro k (hk | hk)
            · rcases g3 k hk with h | h
              · exact .inl h
              · exact .inr ⟨h.1, by omega⟩
            · exact .inr ⟨by have := g4.size; omega, hk.2⟩
          · refine (g4.then_ K2.out).trans K3.out (fun k hlt hk => ?_)
            rcases g3 k hk with h | h
            · exact .inl h
            · omega
          · rw [← RR.out.1]
            exact g5
          · rw [← RR.out.1]
            have : pUsed (x :: r) = x.b.length + pUsed r := by simp [pUsed]
            omega
        case measure => simp [intOf]; omega
      | true =>
        have hpi : ps.length = i := hlenps rfl
        have PIL := As.mk hpi
        clear hlenps
        by_cases hps : ps = []
        · have hi0 : i = 0 := by rw [← hpi, hps]; rfl
          have hd0 : decide ((0 : Int) < (i : Int)) = false := by rw [decide_eq_false_iff_not]; omega
          have hd2 : decide (0 < i) = false := by rw [decide_eq_false_iff_not]; omega
          have hkeep := As.mk (show ¬ (ps ≠ [] ∧ x.n ≠ jNext ps rs) from fun h => h.1 hps)
          clear hpi hps hi0
          obtain ⟨nb, hnb⟩ : ∃ z, z = x.b.length := ⟨_, rfl⟩
          obtain ⟨xe, hxe⟩ : ∃ z, z = recsEnd x.b := ⟨_, rfl⟩
          have hxel : xe ≤ nb := by rw [hxe, hnb]; exact recsEnd_le _
          have NB := As.mk (And.intro hnb hxe)
          have hnbl : nb ≤ 65536 := by rw [hnb]; exact hul
          have hqs := recsOf_le x.b
          rw [← hnb] at hqs
          have hCV := As.mk (show errV (cutCode false (L1 ++ x :: r) xn (xe : Int)) = .nilIface ∧ (if cutCode false (L1 ++ x :: r) xn (xe : Int) = 0 then pCut xn (xe : Int).toNat (L1 ++ x :: r) else L1 ++ x :: r) = L1 ++ ⟨x.n, x.b.take xe, xe⟩ :: r by
            have e : cutCode false (L1 ++ x :: r) xn (xe : Int) = 0 := by
              unfold cutCode
              rw [XN.out, HPC.out.2.1, if_pos rfl, HPC.out.2.2, ← hnb, if_neg (by omega)]
            rw [e, if_pos rfl]
            refine ⟨rfl, ?_⟩
            rw [XN.out, Int.toNat_natCast]
            exact pSet_mid (fun x => ⟨x.n, x.b.take xe, xe⟩) HPC.out.1)
          have K2 := As.mk (Kp.refl No wr)
          clear hnb hxe
          go_wp2_with (first
            | (go_at_call 31; go_must (refine (F2.out (by omega)).mono ?_; rintro e w2 ⟨rfl, qn, rfl⟩; clear K2; have K2 := As.mk ((Kp.refl No wr).drewN qn)))
            | (go_at_call 12; go_must (
                refine (read_at .nilIface x.b _ d D' room false (L1 ++ x :: r) (JW.out.dsk.keep K2.out) xn (by omega) (by rw [XN.out, HPC.out.2.1]; rfl) (by rw [XN.out, HPC.out.2.1, if_pos rfl]; exact HPC.out.2.2)).mono ?_
                rw [← NB.out.1]
                rintro e w3 ⟨A3, c3, rfl, hc3, _, r3, k3⟩
                have R3 := As.mk r3
                have K3 := As.mk (K2.out.then_ k3)
                clear k3 r3))
            | (go_at_call 45; go_must (
                refine (records_any _ A3 nb c3 x.b w3 R3.out NB.out.1.symm (fun k hk => hk.2) (by omega) hc3).mono ?_
                rw [← NB.out.2]
                rintro e w4 ⟨v4, rfl, q4, k4⟩
                obtain ⟨A4, c4, rfl, _, _⟩ := q4.len
                have Q4 := As.mk q4
                have K4 := As.mk (K3.out.then_ k4)
                have S34 := As.mk k4.size
                have d04 := K4.out.cell c0 id
                clear q4 k4))
            | (go_at_call 16; go_must (
                refine (cut_at .nilIface (L1 ++ ⟨x.n, x.b.take xe, xe⟩ :: r) w4 d D' room false (L1 ++ x :: r) (JW.out.dsk.keep K4.out) xn (xe : Int) (by omega) hCV.out.1 hCV.out.2).mono ?_
                rintro e w5 ⟨rfl, h5, k5⟩
                have D5 := As.mk h5
                have K5 := As.mk k5
                clear h5 k5)))
          have JX := (JW.out.keep K4.out).disk K5.out D5.out
          have hDlt := As.mk JW.out.dsk.lt
          have S4 := As.mk K4.out.size
          have S3 := As.mk K3.out.size
          have S5 := As.mk K5.out.size
          have Q5 := As.mk ((Q4.out.mono (G := fun k => w3.heap.size ≤ k ∧ k < w4.heap.size) (fun k hlt hk => ⟨hk, hlt⟩)).kp K5.out (fun k hk hd => by
            have h1 := hDlt.out k hd
            have h2 : w3.heap.size ≤ k := hk.1
            have := S3.out
            omega))
          obtain ⟨vp', vl', q1, q2, q3, q4, q5, q6, q7⟩ := JX
          obtain ⟨Ap, cp, rfl, _, _, _, _⟩ := ints_see q4
          obtain ⟨Al, cl, rfl, _, _⟩ := q5.len
          obtain ⟨acs, ha1, ha2⟩ := q5
          obtain ⟨bcs, hb1, hb2⟩ := Q5.out
          have hjl : j < w5.heap.size := blk_lt q1
          have B5 := As.mk q1
          have JB := As.mk (And.intro q2 (And.intro q3 q7))
          have PP := As.mk q4
          have RA := As.mk ha1
          have RB := As.mk ha2
          have SA := As.mk hb1
          have SB := As.mk hb2
          have DK := As.mk q6
          obtain ⟨nq, hnq⟩ : ∃ z, z = (recsOf x.b).length := ⟨_, rfl⟩
          have NQ := As.mk hnq
          rw [← hnq] at hb1 hqs
          have SA2 := As.mk hb1
          clear q1 q2 q3 q4 q6 q7 ha1 ha2 hb1 hb2 hnq
          rw [← NQ.out]
          refine wp_region_planZ_at [0, 1, 2, 3, 4, 5, 6, 9, 10, 11, 12, 13, 7, 8, 14, 15, 16, 17, 18, 19, 20] 17 (fun w' => w'.heap[j]? = some (.cells #[.pointer (some ⟨d, 0, none⟩), .int .i64 many, .slice Ap ps.length cp, .slice Al rs.length cl] 80 (0, 0))) (by kernel_rfl) rfl ?_
          have hS : w5.drew.heap[j]? = some (.cells #[.pointer (some ⟨d, 0, none⟩), .int .i64 many, .slice Ap ps.length cp, .slice Al rs.length cl] 80 (0, 0)) := B5.out
          have K6 := As.mk (Kp.refl No w5).drew
          revert hS K6
          generalize w5.drew = w6
          intro hS K6
          simp only [permOf, List.getElem?_cons_zero, List.getElem?_cons_succ, Nat.reduceAdd, List.size_toArray, List.length_cons, List.length_nil, Array.replicate, List.replicate]
          repeat
            first
              | (refine planZ_take (v := ?_) rfl (by kernel_rfl) (by rfl) hS ?_ ?_
                 rotate_left 1
                 · intro w; go_simp
                   try with_reducible rfl
                   done
                 simp only [Act.put, List.setIfInBounds_toArray, List.set_cons_zero, List.set_cons_succ])
              | (refine planZ_takeS (v := ?_) rfl (by kernel_rfl) (by rfl) hS ?_ ?_
                 rotate_left 1
                 · intro w hSw; obtain ⟨_, _, hs2, hs3, _⟩ := blk4 hSw; go_simp
                   try with_reducible rfl
                   done
                 simp only [Act.put, List.setIfInBounds_toArray, List.set_cons_zero, List.set_cons_succ])
          refine planZ_do rfl (by kernel_rfl) (by rfl) (fun K hK => ?_)
          go_simp
          replace hS := ((Kp.refl No w6).alloc (.cells #[.int .i64 xn] 3)).heap hS id
          refine hK.out _ _ hS ?_
          clear K hK
          simp only [Act.put, List.setIfInBounds_toArray, List.set_cons_zero, List.set_cons_succ]
          refine planZ_do rfl (by kernel_rfl) (by rfl) (fun K hK => ?_)
          refine app_wp _ _ _ rfl 3 _ 1 8 infoI Try.underlying51 rfl (by decide) (.slice Ap ps.length cp) ps.length (ints ps) rfl (PP.out.keep (K6.out.alloc _)) (some ⟨w6.heap.size, 0, none⟩) 1 1 [.int .i64 xn] rfl (F := fun _ => True) ?zf rfl ?zg ?zh ?zi ?_
          case zf => exact fun _ => ⟨_, rfl, trivial, World.news_of_block (heap_alloc_new w6 _)⟩
          case zg => intro u hu; simp at hu; subst hu; rfl
          case zh => unfold maxLen; omega
          case zi => omega
          intro v8 w8 o8 g8
          replace hS := (g8.block j (blk_lt hS) (fun e => own_ne PP.out B5.out (by decide) e.symm)).trans hS
          have O8 := As.mk o8
          obtain ⟨A8, c8, rfl, _, _, _⟩ := o8.read
          have G8 := As.mk g8
          have K68 := As.mk (show Kp (fun k => (Value.slice Ap ps.length cp).ownBlock = some k) w5 w8 from ((K6.out.alloc (.cells #[.int .i64 xn] 3)).mono (T := fun k => (Value.slice Ap ps.length cp).ownBlock = some k) (fun _ _ h => h.elim)).grown g8 (fun k hk => .inl hk))
          refine hK.out _ _ hS ?_
          clear K hK o8 g8
          simp only [Act.put, List.setIfInBounds_toArray, List.set_cons_zero, List.set_cons_succ]
          have RA8 := As.mk (RA.out.only.kp K68.out (fun k hk he => own_apart RA.out PP.out (by decide) hk.2 he))
          have SA8 := As.mk (SA2.out.only.kp K68.out (fun k hk he => own_apart SA2.out PP.out (by decide) hk.2 he))
          obtain ⟨_, _, e4, _, _, rd4⟩ := SA8.out.read
          have RD4 := As.mk rd4
          injection e4 with e41 e42 e43
          subst e41
          subst e43
          clear e42 rd4
          refine planZ_do rfl (by kernel_rfl) (by rfl) (fun K hK => ?_)
          refine app_wp _ _ _ rfl 22 _ 1 24 infoRecs Try.underlying56 rfl (by decide) (.slice Al rs.length cl) rs.length acs rfl RA8.out _ nq _ bcs rfl RD4.out ?zp ?zq ?zr ?zs ?_
          case zp => have := SA2.out.len; omega
          case zq =>
            intro u hu
            obtain ⟨q, hq, rfl⟩ := List.mem_iff_getElem.1 hu
            have hql : q < (recsOf x.b).length := by have := SA2.out.len; have := NQ.out; omega
            obtain ⟨u', h1, h2⟩ := SB.out q _ (List.getElem?_eq_getElem hql)
            rw [List.getElem?_eq_getElem hq] at h1
            injection h1 with h1
            rw [h1]
            exact h2.one
          case zr => unfold maxLen; omega
          case zs => omega
          intro v14 w14 o14 g14
          replace hS := (g14.block j (blk_lt hS) (fun e => own_ne RA.out B5.out (by decide) e.symm)).trans hS
          have O14 := As.mk o14
          obtain ⟨A14, c14, rfl, _, _, _⟩ := o14.read
          have G14 := As.mk g14
          refine hK.out _ _ hS ?_
          clear K hK o14 g14
          simp only [Act.put, List.setIfInBounds_toArray, List.set_cons_zero, List.set_cons_succ]
          refine planZ_do rfl (by kernel_rfl) (by rfl) (fun K hK => ?_)
          go_simp
          refine hK.out _ _ hS ?_
          clear K hK
          simp only [Act.put, List.setIfInBounds_toArray, List.set_cons_zero, List.set_cons_succ]
          refine planZ_do rfl (by kernel_rfl) (by rfl) (fun K hK => ?_)
          go_simp
          refine hK.out _ _ hS ?_
          clear K hK
          simp only [Act.put, List.setIfInBounds_toArray, List.set_cons_zero, List.set_cons_succ]
          have HS := As.mk hS
          obtain ⟨_, _, y2, y3, yz⟩ := blk4 hS
          have yz2 := yz 2
          have yz3 := yz 3
          clear hS yz
          refine planZ_last rfl (by kernel_rfl) (by rfl) (by rfl) (fun K hK => ?_)
          go_simp
          refine hK.out _ _ ?_
          clear K hK
          simp only [Act.put, List.setIfInBounds_toArray, List.set_cons_zero, List.set_cons_succ]
          refine planZ_last rfl (by kernel_rfl) (by rfl) (by rfl) (fun K hK => ?_)
          go_simp
          refine hK.out _ _ ?_
          clear K hK
          simp only [Act.put, List.setIfInBounds_toArray, List.set_cons_zero, List.set_cons_succ]
          refine planZ_last rfl (by kernel_rfl) (by rfl) (by rfl) (fun K hK => ?_)
          go_simp
          refine hK.out _ _ ?_
          clear K hK
          simp only [Act.put, List.setIfInBounds_toArray, List.set_cons_zero, List.set_cons_succ]
          refine planZ_last rfl (by kernel_rfl) (by rfl) (by rfl) (fun K hK => ?_)
          go_simp
          refine hK.out _ _ ?_
          clear K hK
          simp only [Act.put, List.setIfInBounds_toArray, List.set_cons_zero, List.set_cons_succ]
          refine planZ_done (by kernel_rfl) (NoPanic.normal ?_)
          clear y2 y3 yz2 yz3
          go_wp2
          obtain ⟨g2, g3, g4, g5, g6, g7, g8', g9⟩ := GG.out
          have B8 := K68.out.heap B5.out (fun e => own_ne PP.out B5.out (by decide) e)
          have KA : Kp (fun k => k = j ∨ (Value.slice Al rs.length cl).ownBlock = some k) w8 ((w14.setCell ⟨j, 2, none⟩ (.slice A8 (ps.length + 1) c8)).setCell ⟨j, 3, none⟩ (.slice A14 (rs.length + nq) c14)) :=
            (((Kp.refl _ w8).grown G14.out (fun k hk => .inl (.inr hk))).setCell (p := ⟨j, 2, none⟩) (.inl (.inl rfl)) _).setCell (p := ⟨j, 3, none⟩) (.inl (.inl rfl)) _
          have KI : Kp (Is j) w14 ((w14.setCell ⟨j, 2, none⟩ (.slice A8 (ps.length + 1) c8)).setCell ⟨j, 3, none⟩ (.slice A14 (rs.length + nq) c14)) := ((Kp.refl _ w14).set 2 _).set 3 _
          have JBf := blk_set (blk_set HS.out 2 (.slice A8 (ps.length + 1) c8)) 3 (.slice A14 (rs.length + nq) c14)
          have hsw : w14.heap.size = ((w14.setCell ⟨j, 2, none⟩ (.slice A8 (ps.length + 1) c8)).setCell ⟨j, 3, none⟩ (.slice A14 (rs.length + nq) c14)).heap.size := by simp [World.setCell]
          revert KA KI JBf hsw
          generalize (w14.setCell ⟨j, 2, none⟩ (.slice A8 (ps.length + 1) c8)).setCell ⟨j, 3, none⟩ (.slice A14 (rs.length + nq) c14) = wf
          intro KA KI JBf hsw
          have t3 := S3.out
          have t4 := S4.out
          have t34 := S34.out
          have t5 := S5.out
          have t6 := K6.out.size
          have t8 := K68.out.size
          have tg8 := G8.out.size
          have tf := KA.size
          have t14 := G14.out.size
          have talloc : (w6.alloc (.cells #[.int .i64 xn] 3)).heap.size = w6.heap.size + 1 := by simp
          have t1 := g4.size
          have KJ : Kp J' w5 wf := kp_two K68.out KA (fun k hk => PP.out.2 k hk) (fun k _ hk => by
            rcases hk with rfl | hk
            · exact JB.out.1
            · exact RA.out.2 k hk)
          have own1 : Own wf (fun k => J' k ∨ (w3.heap.size ≤ k ∧ k < wf.heap.size ∧ ¬ (w4.heap.size ≤ k ∧ k < w5.heap.size))) 3 1 (.slice A8 (ps.length + 1) c8) (ps ++ [x.n]).length (ints (ps ++ [x.n])) := by
            have o := (O8.out.only.kp KA (fun k hk he => by
              rcases he with he | he
              · exact own_ne O8.out B8 (by decide) (he ▸ hk.2)
              · exact own_apart O8.out RA8.out (by decide) hk.2 he)).mono (G := fun k => J' k ∨ (w3.heap.size ≤ k ∧ k < wf.heap.size ∧ ¬ (w4.heap.size ≤ k ∧ k < w5.heap.size))) (fun k hlt hk => by
              rcases hk.1 with h | h
              · exact .inl (PP.out.2 k h)
              · right; omega)
            rw [List.length_append, ← XN.out]
            simpa [ints] using o
          have h1 : Own wf (fun k => J' k ∨ (w3.heap.size ≤ k ∧ k < wf.heap.size ∧ ¬ (w4.heap.size ≤ k ∧ k < w5.heap.size))) 22 1 (.slice A14 (rs.length + nq) c14) (rs.length + (recsOf x.b).length) (acs ++ bcs) := by
            rw [← NQ.out]
            exact (O14.out.only.kp KI (fun k hk he => own_ne O14.out HS.out (by decide) (by have e : k = j := he; exact e ▸ hk.2))).mono (fun k hlt hk => by
              rcases hk.1 with h | h
              · exact .inl (RA.out.2 k h)
              · right; omega)
          have recs := Recs.cat (w := w8) (F := fun k => J' k ∨ (w3.heap.size ≤ k ∧ k < w4.heap.size)) (RA8.out.mono (fun k _ hk => .inl hk.1))
            (fun q r' hq => by
              obtain ⟨u, hu1, hu2⟩ := RB.out q r' hq
              exact ⟨u, hu1, (hu2.kp K68.out (fun k _ hu he => own_u8 PP.out (by decide) hu he)).mono (fun k _ hk => .inl hk)⟩)
            (fun q r' hq => by
              obtain ⟨u, hu1, hu2⟩ := SB.out q r' hq
              exact ⟨u, hu1, (hu2.kp K68.out (fun k _ hu he => own_u8 PP.out (by decide) hu he)).mono (fun k _ hk => .inr hk)⟩)
            h1 KA (fun k _ hu he => by
              rcases he with he | he
              · exact hu.ne B8 (by decide) he
              · exact own_u8 RA8.out (by decide) hu he) (fun k hk => by
              rcases hk with h | h
              · exact .inl h
              · right; omega)
          have hJlt := JW.out.lt
          refine ⟨⟨i + 1, true, by go_num, rfl, by omega, ⟨L1 ++ [⟨x.n, x.b.take xe, xe⟩], ps ++ [x.n], rs ++ recsOf x.b, _, Gr D' w4 w5, ⟨_, _, JBf, .inl JB.out.1, ?_, own1, recs, ?_, ?_⟩, ?_, ?_, ?_, ?_, g6.snoc (by omega) (by rw [← XN.out]; exact hxn), ?_, ?_, ?_⟩⟩, by simp [intOf]; omega⟩
          · rintro k (hk | hk)
            · have := JB.out.2.1 k hk; omega
            · exact hk.2.1
          · rw [← RR.out.1, List.append_assoc]
            exact DK.out.kp KJ (fun k hk hj => JB.out.2.2 k hk hj)
          · rintro k hk (hj | hj)
            · exact JB.out.2.2 k hk hj
            · rcases hk with hk | hk
              · have := hDlt.out k hk; omega
              · exact hj.2.2 hk
          · rintro k (hk | hk)
            · rcases g2 k hk with h | h
              · exact .inl h
              · exact .inr ⟨h.1, by omega⟩
            · exact .inr ⟨by omega, hk.2.1⟩
          · rintro k (hk | hk)
            · rcases g3 k hk with h | h
              · exact .inl h
              · exact .inr ⟨h.1, by omega⟩
            · exact .inr ⟨by omega, by omega⟩
          · refine (((g4.then_ K4.out).trans K5.out (fun k hlt hk => ?_))).trans KJ (fun k hlt hk => ?_)
            · rcases g3 k hk with h | h
              · exact .inl h
              · omega
            · rcases g2 k hk with h | h
              · exact .inr h
              · omega
          · rw [← RR.out.1]
            rw [loadGo, if_neg hkeep.out, ← NB.out.2] at g5
            rw [List.append_assoc]
            exact g5
          · intro _
            rw [List.length_append]
            simp only [List.length_cons, List.length_nil]
            have := PIL.out
            omega
          · rw [List.length_append]
            simp only [List.length_cons, List.length_nil]
            omega
          · rw [← RR.out.1, List.length_append]
            have hu : pUsed (x :: r) = x.b.length + pUsed r := by simp [pUsed]
            have := recsOf_le x.b
            omega
        · have hi0 : 0 < i := by rw [← hpi]; exact List.length_pos_iff.2 hps
          have hd0 : decide ((0 : Int) < (i : Int)) = true := by rw [decide_eq_true_eq]; omega
          have hd2 : decide (0 < i) = true := by rw [decide_eq_true_eq]; omega
          by_cases hne : xn = nx
          · have hb : (xn != nx) = false := by rw [bne_eq_false_iff_eq]; exact hne
            have hkeep := As.mk (show ¬ (ps ≠ [] ∧ x.n ≠ jNext ps rs) from fun h => h.2 (by rw [← XN.out, ← NX.out]; exact hne))
            clear hpi hps hi0 hne
            obtain ⟨nb, hnb⟩ : ∃ z, z = x.b.length := ⟨_, rfl⟩
            obtain ⟨xe, hxe⟩ : ∃ z, z = recsEnd x.b := ⟨_, rfl⟩
            have hxel : xe ≤ nb := by rw [hxe, hnb]; exact recsEnd_le _
            have NB := As.mk (And.intro hnb hxe)
            have hnbl : nb ≤ 65536 := by rw [hnb]; exact hul
            have hqs := recsOf_le x.b
            rw [← hnb] at hqs
            have hCV := As.mk (show errV (cutCode false (L1 ++ x :: r) xn (xe : Int)) = .nilIface ∧ (if cutCode false (L1 ++ x :: r) xn (xe : Int) = 0 then pCut xn (xe : Int).toNat (L1 ++ x :: r) else L1 ++ x :: r) = L1 ++ ⟨x.n, x.b.take xe, xe⟩ :: r by
              have e : cutCode false (L1 ++ x :: r) xn (xe : Int) = 0 := by
                unfold cutCode
                rw [XN.out, HPC.out.2.1, if_pos rfl, HPC.out.2.2, ← hnb, if_neg (by omega)]
              rw [e, if_pos rfl]
              refine ⟨rfl, ?_⟩
              rw [XN.out, Int.toNat_natCast]
              exact pSet_mid (fun x => ⟨x.n, x.b.take xe, xe⟩) HPC.out.1)
            have K2 := As.mk (Kp.refl No wr)
            clear hnb hxe
            go_wp2_with (first
              | (go_at_call 31; go_must (refine (F2.out (by omega)).mono ?_; rintro e w2 ⟨rfl, qn, rfl⟩; clear K2; have K2 := As.mk ((Kp.refl No wr).drewN qn)))
              | (go_at_call 12; go_must (
                  refine (read_at .nilIface x.b _ d D' room false (L1 ++ x :: r) (JW.out.dsk.keep K2.out) xn (by omega) (by rw [XN.out, HPC.out.2.1]; rfl) (by rw [XN.out, HPC.out.2.1, if_pos rfl]; exact HPC.out.2.2)).mono ?_
                  rw [← NB.out.1]
                  rintro e w3 ⟨A3, c3, rfl, hc3, _, r3, k3⟩
                  have R3 := As.mk r3
                  have K3 := As.mk (K2.out.then_ k3)
                  clear k3 r3))
              | (go_at_call 45; go_must (
                  refine (records_any _ A3 nb c3 x.b w3 R3.out NB.out.1.symm (fun k hk => hk.2) (by omega) hc3).mono ?_
                  rw [← NB.out.2]
                  rintro e w4 ⟨v4, rfl, q4, k4⟩
                  obtain ⟨A4, c4, rfl, _, _⟩ := q4.len
                  have Q4 := As.mk q4
                  have K4 := As.mk (K3.out.then_ k4)
                  have S34 := As.mk k4.size
                  have d04 := K4.out.cell c0 id
                  clear q4 k4))
              | (go_at_call 16; go_must (
                  refine (cut_at .nilIface (L1 ++ ⟨x.n, x.b.take xe, xe⟩ :: r) w4 d D' room false (L1 ++ x :: r) (JW.out.dsk.keep K4.out) xn (xe : Int) (by omega) hCV.out.1 hCV.out.2).mono ?_
                  rintro e w5 ⟨rfl, h5, k5⟩
                  have D5 := As.mk h5
                  have K5 := As.mk k5
                  clear h5 k5)))
            have JX := (JW.out.keep K4.out).disk K5.out D5.out
            have hDlt := As.mk JW.out.dsk.lt
            have S4 := As.mk K4.out.size
            have S3 := As.mk K3.out.size
            have S5 := As.mk K5.out.size
            have Q5 := As.mk ((Q4.out.mono (G := fun k => w3.heap.size ≤ k ∧ k < w4.heap.size) (fun k hlt hk => ⟨hk, hlt⟩)).kp K5.out (fun k hk hd => by
              have h1 := hDlt.out k hd
              have h2 : w3.heap.size ≤ k := hk.1
              have := S3.out
              omega))
            obtain ⟨vp', vl', q1, q2, q3, q4, q5, q6, q7⟩ := JX
            obtain ⟨Ap, cp, rfl, _, _, _, _⟩ := ints_see q4
            obtain ⟨Al, cl, rfl, _, _⟩ := q5.len
            obtain ⟨acs, ha1, ha2⟩ := q5
            obtain ⟨bcs, hb1, hb2⟩ := Q5.out
            have hjl : j < w5.heap.size := blk_lt q1
            have B5 := As.mk q1
            have JB := As.mk (And.intro q2 (And.intro q3 q7))
            have PP := As.mk q4
            have RA := As.mk ha1
            have RB := As.mk ha2
            have SA := As.mk hb1
            have SB := As.mk hb2
            have DK := As.mk q6
            obtain ⟨nq, hnq⟩ : ∃ z, z = (recsOf x.b).length := ⟨_, rfl⟩
            have NQ := As.mk hnq
            rw [← hnq] at hb1 hqs
            have SA2 := As.mk hb1
            clear q1 q2 q3 q4 q6 q7 ha1 ha2 hb1 hb2 hnq
            rw [← NQ.out]
            refine wp_region_planZ_at [0, 1, 2, 3, 4, 5, 6, 9, 10, 11, 12, 13, 7, 8, 14, 15, 16, 17, 18, 19, 20] 17 (fun w' => w'.heap[j]? = some (.cells #[.pointer (some ⟨d, 0, none⟩), .int .i64 many, .slice Ap ps.length cp, .slice Al rs.length cl] 80 (0, 0))) (by kernel_rfl) rfl ?_
            have hS : w5.drew.heap[j]? = some (.cells #[.pointer (some ⟨d, 0, none⟩), .int .i64 many, .slice Ap ps.length cp, .slice Al rs.length cl] 80 (0, 0)) := B5.out
            have K6 := As.mk (Kp.refl No w5).drew
            revert hS K6
            generalize w5.drew = w6
            intro hS K6
            simp only [permOf, List.getElem?_cons_zero, List.getElem?_cons_succ, Nat.reduceAdd, List.size_toArray, List.length_cons, List.length_nil, Array.replicate, List.replicate]
            repeat
              first
                | (refine planZ_take (v := ?_) rfl (by kernel_rfl) (by rfl) hS ?_ ?_
                   rotate_left 1
                   · intro w; go_simp
                     try with_reducible rfl
                     done
                   simp only [Act.put, List.setIfInBounds_toArray, List.set_cons_zero, List.set_cons_succ])
                | (refine planZ_takeS (v := ?_) rfl (by kernel_rfl) (by rfl) hS ?_ ?_
                   rotate_left 1
                   · intro w hSw; obtain ⟨_, _, hs2, hs3, _⟩ := blk4 hSw; go_simp
                     try with_reducible rfl
                     done
                   simp only [Act.put, List.setIfInBounds_toArray, List.set_cons_zero, List.set_cons_succ])
            refine planZ_do rfl (by kernel_rfl) (by rfl) (fun K hK => ?_)
            go_simp
            replace hS := ((Kp.refl No w6).alloc (.cells #[.int .i64 xn] 3)).heap hS id
            refine hK.out _ _ hS ?_
            clear K hK
            simp only [Act.put, List.setIfInBounds_toArray, List.set_cons_zero, List.set_cons_succ]
            refine planZ_do rfl (by kernel_rfl) (by rfl) (fun K hK => ?_)
            refine app_wp _ _ _ rfl 3 _ 1 8 infoI Try.underlying51 rfl (by decide) (.slice Ap ps.length cp) ps.length (ints ps) rfl (PP.out.keep (K6.out.alloc _)) (some ⟨w6.heap.size, 0, none⟩) 1 1 [.int .i64 xn] rfl (F := fun _ => True) ?zf rfl ?zg ?zh ?zi ?_
            case zf => exact fun _ => ⟨_, rfl, trivial, World.news_of_block (heap_alloc_new w6 _)⟩
            case zg => intro u hu; simp at hu; subst hu; rfl
            case zh => unfold maxLen; omega
            case zi => omega
            intro v8 w8 o8 g8
            replace hS := (g8.block j (blk_lt hS) (fun e => own_ne PP.out B5.out (by decide) e.symm)).trans hS
            have O8 := As.mk o8
            obtain ⟨A8, c8, rfl, _, _, _⟩ := o8.read
            have G8 := As.mk g8
            have K68 := As.mk (show Kp (fun k => (Value.slice Ap ps.length cp).ownBlock = some k) w5 w8 from ((K6.out.alloc (.cells #[.int .i64 xn] 3)).mono (T := fun k => (Value.slice Ap ps.length cp).ownBlock = some k) (fun _ _ h => h.elim)).grown g8 (fun k hk => .inl hk))
            refine hK.out _ _ hS ?_
            clear K hK o8 g8
            simp only [Act.put, List.setIfInBounds_toArray, List.set_cons_zero, List.set_cons_succ]
            have RA8 := As.mk (RA.out.only.kp K68.out (fun k hk he => own_apart RA.out PP.out (by decide) hk.2 he))
            have SA8 := As.mk (SA2.out.only.kp K68.out (fun k hk he => own_apart SA2.out PP.out (by decide) hk.2 he))
            obtain ⟨_, _, e4, _, _, rd4⟩ := SA8.out.read
            have RD4 := As.mk rd4
            injection e4 with e41 e42 e43
            subst e41
            subst e43
            clear e42 rd4
            refine planZ_do rfl (by kernel_rfl) (by rfl) (fun K hK => ?_)
            refine app_wp _ _ _ rfl 22 _ 1 24 infoRecs Try.underlying56 rfl (by decide) (.slice Al rs.length cl) rs.length acs rfl RA8.out _ nq _ bcs rfl RD4.out ?zp ?zq ?zr ?zs ?_
            case zp => have := SA2.out.len; omega
            case zq =>
              intro u hu
              obtain ⟨q, hq, rfl⟩ := List.mem_iff_getElem.1 hu
              have hql : q < (recsOf x.b).length := by have := SA2.out.len; have := NQ.out; omega
              obtain ⟨u', h1, h2⟩ := SB.out q _ (List.getElem?_eq_getElem hql)
              rw [List.getElem?_eq_getElem hq] at h1
              injection h1 with h1
              rw [h1]
              exact h2.one
            case zr => unfold maxLen; omega
            case zs => omega
            intro v14 w14 o14 g14
            replace hS := (g14.block j (blk_lt hS) (fun e => own_ne RA.out B5.out (by decide) e.symm)).trans hS
            have O14 := As.mk o14
            obtain ⟨A14, c14, rfl, _, _, _⟩ := o14.read
            have G14 := As.mk g14
            refine hK.out _ _ hS ?_
            clear K hK o14 g14
            simp only [Act.put, List.setIfInBounds_toArray, List.set_cons_zero, List.set_cons_succ]
            refine planZ_do rfl (by kernel_rfl) (by rfl) (fun K hK => ?_)
            go_simp
            refine hK.out _ _ hS ?_
            clear K hK
            simp only [Act.put, List.setIfInBounds_toArray, List.set_cons_zero, List.set_cons_succ]
            refine planZ_do rfl (by kernel_rfl) (by rfl) (fun K hK => ?_)
            go_simp
            refine hK.out _ _ hS ?_
            clear K hK
            simp only [Act.put, List.setIfInBounds_toArray, List.set_cons_zero, List.set_cons_succ]
            have HS := As.mk hS
            obtain ⟨_, _, y2, y3, yz⟩ := blk4 hS
            have yz2 := yz 2
            have yz3 := yz 3
            clear hS yz
            refine planZ_last rfl (by kernel_rfl) (by rfl) (by rfl) (fun K hK => ?_)
            go_simp
            refine hK.out _ _ ?_
            clear K hK
            simp only [Act.put, List.setIfInBounds_toArray, List.set_cons_zero, List.set_cons_succ]
            refine planZ_last rfl (by kernel_rfl) (by rfl) (by rfl) (fun K hK => ?_)
            go_simp
            refine hK.out _ _ ?_
            clear K hK
            simp only [Act.put, List.setIfInBounds_toArray, List.set_cons_zero, List.set_cons_succ]
            refine planZ_last rfl (by kernel_rfl) (by rfl) (by rfl) (fun K hK => ?_)
            go_simp
            refine hK.out _ _ ?_
            clear K hK
            simp only [Act.put, List.setIfInBounds_toArray, List.set_cons_zero, List.set_cons_succ]
            refine planZ_last rfl (by kernel_rfl) (by rfl) (by rfl) (fun K hK => ?_)
            go_simp
            refine hK.out _ _ ?_
            clear K hK
            simp only [Act.put, List.setIfInBounds_toArray, List.set_cons_zero, List.set_cons_succ]
            refine planZ_done (by kernel_rfl) (NoPanic.normal ?_)
            clear y2 y3 yz2 yz3
            go_wp2
            obtain ⟨g2, g3, g4, g5, g6, g7, g8', g9⟩ := GG.out
            have B8 := K68.out.heap B5.out (fun e => own_ne PP.out B5.out (by decide) e)
            have KA : Kp (fun k => k = j ∨ (Value.slice Al rs.length cl).ownBlock = some k) w8 ((w14.setCell ⟨j, 2, none⟩ (.slice A8 (ps.length + 1) c8)).setCell ⟨j, 3, none⟩ (.slice A14 (rs.length + nq) c14)) :=
              (((Kp.refl _ w8).grown G14.out (fun k hk => .inl (.inr hk))).setCell (p := ⟨j, 2, none⟩) (.inl (.inl rfl)) _).setCell (p := ⟨j, 3, none⟩) (.inl (.inl rfl)) _
            have KI : Kp (Is j) w14 ((w14.setCell ⟨j, 2, none⟩ (.slice A8 (ps.length + 1) c8)).setCell ⟨j, 3, none⟩ (.slice A14 (rs.length + nq) c14)) := ((Kp.refl _ w14).set 2 _).set 3 _
            have JBf := blk_set (blk_set HS.out 2 (.slice A8 (ps.length + 1) c8)) 3 (.slice A14 (rs.length + nq) c14)
            have hsw : w14.heap.size = ((w14.setCell ⟨j, 2, none⟩ (.slice A8 (ps.length + 1) c8)).setCell ⟨j, 3, none⟩ (.slice A14 (rs.length + nq) c14)).heap.size := by simp [World.setCell]
            revert KA KI JBf hsw
            generalize (w14.setCell ⟨j, 2, none⟩ (.slice A8 (ps.length + 1) c8)).setCell ⟨j, 3, none⟩ (.slice A14 (rs.length + nq) c14) = wf
            intro KA KI JBf hsw
            have t3 := S3.out
            have t4 := S4.out
            have t34 := S34.out
            have t5 := S5.out
            have t6 := K6.out.size
            have t8 := K68.out.size
            have tg8 := G8.out.size
            have tf := KA.size
            have t14 := G14.out.size
            have talloc : (w6.alloc (.cells #[.int .i64 xn] 3)).heap.size = w6.heap.size + 1 := by simp
            have t1 := g4.size
            have KJ : Kp J' w5 wf := kp_two K68.out KA (fun k hk => PP.out.2 k hk) (fun k _ hk => by
              rcases hk with rfl | hk
              · exact JB.out.1
              · exact RA.out.2 k hk)
            have own1 : Own wf (fun k => J' k ∨ (w3.heap.size ≤ k ∧ k < wf.heap.size ∧ ¬ (w4.heap.size ≤ k ∧ k < w5.heap.size))) 3 1 (.slice A8 (ps.length + 1) c8) (ps ++ [x.n]).length (ints (ps ++ [x.n])) := by
              have o := (O8.out.only.kp KA (fun k hk he => by
                rcases he with he | he
                · exact own_ne O8.out B8 (by decide) (he ▸ hk.2)
                · exact own_apart O8.out RA8.out (by decide) hk.2 he)).mono (G := fun k => J' k ∨ (w3.heap.size ≤ k ∧ k < wf.heap.size ∧ ¬ (w4.heap.size ≤ k ∧ k < w5.heap.size))) (fun k hlt hk => by
                rcases hk.1 with h | h
                · exact .inl (PP.out.2 k h)
                · right; omega)
              rw [List.length_append, ← XN.out]
              simpa [ints] using o
            have h1 : Own wf (fun k => J' k ∨ (w3.heap.size ≤ k ∧ k < wf.heap.size ∧ ¬ (w4.heap.size ≤ k ∧ k < w5.heap.size))) 22 1 (.slice A14 (rs.length + nq) c14) (rs.length + (recsOf x.b).length) (acs ++ bcs) := by
              rw [← NQ.out]
              exact (O14.out.only.kp KI (fun k hk he => own_ne O14.out HS.out (by decide) (by have e : k = j := he; exact e ▸ hk.2))).mono (fun k hlt hk => by
                rcases hk.1 with h | h
                · exact .inl (RA.out.2 k h)
                · right; omega)
            have recs := Recs.cat (w := w8) (F := fun k => J' k ∨ (w3.heap.size ≤ k ∧ k < w4.heap.size)) (RA8.out.mono (fun k _ hk => .inl hk.1))
              (fun q r' hq => by
                obtain ⟨u, hu1, hu2⟩ := RB.out q r' hq
                exact ⟨u, hu1, (hu2.kp K68.out (fun k _ hu he => own_u8 PP.out (by decide) hu he)).mono (fun k _ hk => .inl hk)⟩)
              (fun q r' hq => by
                obtain ⟨u, hu1, hu2⟩ := SB.out q r' hq
                exact ⟨u, hu1, (hu2.kp K68.out (fun k _ hu he => own_u8 PP.out (by decide) hu he)).mono (fun k _ hk => .inr hk)⟩)
              h1 KA (fun k _ hu he => by
                rcases he with he | he
                · exact hu.ne B8 (by decide) he
                · exact own_u8 RA8.out (by decide) hu he) (fun k hk => by
                rcases hk with h | h
                · exact .inl h
                · right; omega)
            have hJlt := JW.out.lt
            refine ⟨⟨i + 1, true, by go_num, rfl, by omega, ⟨L1 ++ [⟨x.n, x.b.take xe, xe⟩], ps ++ [x.n], rs ++ recsOf x.b, _, Gr D' w4 w5, ⟨_, _, JBf, .inl JB.out.1, ?_, own1, recs, ?_, ?_⟩, ?_, ?_, ?_, ?_, g6.snoc (by omega) (by rw [← XN.out]; exact hxn), ?_, ?_, ?_⟩⟩, by simp [intOf]; omega⟩
            · rintro k (hk | hk)
              · have := JB.out.2.1 k hk; omega
              · exact hk.2.1
            · rw [← RR.out.1, List.append_assoc]
              exact DK.out.kp KJ (fun k hk hj => JB.out.2.2 k hk hj)
            · rintro k hk (hj | hj)
              · exact JB.out.2.2 k hk hj
              · rcases hk with hk | hk
                · have := hDlt.out k hk; omega
                · exact hj.2.2 hk
            · rintro k (hk | hk)
              · rcases g2 k hk with h | h
                · exact .inl h
                · exact .inr ⟨h.1, by omega⟩
              · exact .inr ⟨by omega, hk.2.1⟩
            · rintro k (hk | hk)
              · rcases g3 k hk with h | h
                · exact .inl h
                · exact .inr ⟨h.1, by omega⟩
              · exact .inr ⟨by omega, by omega⟩
            · refine (((g4.then_ K4.out).trans K5.out (fun k hlt hk => ?_))).trans KJ (fun k hlt hk => ?_)
              · rcases g3 k hk with h | h
                · exact .inl h
                · omega
              · rcases g2 k hk with h | h
                · exact .inr h
                · omega
            · rw [← RR.out.1]
              rw [loadGo, if_neg hkeep.out, ← NB.out.2] at g5
              rw [List.append_assoc]
              exact g5
            · intro _
              rw [List.length_append]
              simp only [List.length_cons, List.length_nil]
              have := PIL.out
              omega
            · rw [List.length_append]
              simp only [List.length_cons, List.length_nil]
              omega
            · rw [← RR.out.1, List.length_append]
              have hu : pUsed (x :: r) = x.b.length + pUsed r := by simp [pUsed]
              have := recsOf_le x.b
              omega
          · have hb : (xn != nx) = true := by rw [bne_iff_ne]; exact hne
            have hgo := As.mk (show ps ≠ [] ∧ x.n ≠ jNext ps rs from ⟨hps, by rw [← XN.out, ← NX.out]; exact hne⟩)
            clear hpi hps hi0 hne
            go_wp2_with (first
              | (go_at_call 31; go_must (refine (F2.out (by omega)).mono ?_; rintro e w2 ⟨rfl, qn, rfl⟩; have K2 := As.mk ((Kp.refl No wr).drewN qn)))
              | (go_at_call 18; go_must (
                  refine (remove_at .nilIface (L1 ++ r) _ d D' room false (L1 ++ x :: r) (JW.out.dsk.keep K2.out) xn (by omega) (by rw [XN.out, HPC.out.2.1]; rfl) (by rw [XN.out, HPC.out.2.1, if_pos rfl]; exact pDel_mid HPC.out.1)).mono ?_
                  rintro e w3 ⟨rfl, h3, k3⟩
                  have D3 := As.mk h3
                  have K3 := As.mk k3
                  clear h3 k3)))
            go_roundw
            case rel =>
              obtain ⟨g2, g3, g4, g5, g6, g7, g8, g9⟩ := GG.out
              have hlg : loadGo (x :: r) true ps rs = loadGo r false ps rs := by rw [loadGo, if_pos hgo.out]
              rw [hlg] at g5
              have hsz := (K2.out.size)
              have hsz3 := K3.out.size
              refine ⟨i + 1, false, by go_num, rfl, by omega, ⟨L1, ps, rs, J', Gr D' wr w3, ?_, ?_, ?_, ?_, ?_, g6, (fun h => by cases h), by omega, ?_⟩⟩
              · rw [← RR.out.1]
                exact (JW.out.keep K2.out).disk K3.out D3.out
              · intro k hk
                rcases g2 k hk with h | h
                · exact .inl h
                · exact .inr ⟨h.1, by omega⟩
              · rintro k (hk | hk)
                · rcases g3 k hk with h | h
                  · exact .inl h
                  · exact .inr ⟨h.1, by omega⟩
                · exact .inr ⟨by have := g4.size; omega, hk.2⟩
              · refine (g4.then_ K2.out).trans K3.out (fun k hlt hk => ?_)
                rcases g3 k hk with h | h
                · exact .inl h
                · omega
              · rw [← RR.out.1]
                exact g5
              · rw [← RR.out.1]
                have : pUsed (x :: r) = x.b.length + pUsed r := by simp [pUsed]
                omega
            case measure => simp [intOf]; omega
end Go.Proofs.Ytnonbimelkagpaa
