/- The walk of JournalKeeps. -/
import Derived.Test.YtnonbimelkagpaaKeeps
import Derived.Test.YtnonbimelkagpaaUp09
namespace Go.Proofs.Ytnonbimelkagpaa
set_option linter.unusedVariables false
set_option linter.unusedSimpArgs false
open Go.RowKit Go.Lib

/-- A slice of slices of bytes that came in. -/
def ArgRows (w : World) (F : Nat → Prop) (A : Option Addr) (ls : Rcs) : Prop :=
  ls ≠ [] → ∃ g o, A = some ⟨g, o, none⟩ ∧ ∀ (i : Nat) (r : List UInt8), ls[i]? = some r → ∃ Ai ci, w.cell? ⟨g, o + i, none⟩ = some (.slice Ai r.length ci) ∧ F g ∧ Rd w F Ai (u8s r)
theorem jat_sync {w0 w : World} {j d : Nat} {room : Int} {L : List Pt} {many : Int} {ps : List Int} {rs : List (List UInt8)} (h : JAt w0 w j d room false L many ps rs) (hm : Mild ps) (L' : List Pt) (hL' : L' = jsyncL false L ps) (hc : jsyncCode false L ps = 0) :
    Calls Try.prog 29 #[.pointer (some ⟨j, 0, none⟩)] w fun e w' => e = .returned .nilIface ∧ JAt w0 w' j d room false L' many ps rs := by
  subst hL'
  obtain ⟨⟨J, D, g1, g2, g3⟩, g4⟩ := h
  have hs := g4.size
  refine (jsync_any w j J d D room false L many ps rs g1 hm).mono ?_
  rw [hc]
  rintro e w' ⟨rfl, h1, h2⟩
  refine ⟨rfl, ⟨J, _, h1, g2, fun k hk => ?_⟩, g4.from_ h2 g3⟩
  rcases hk with h | h
  · exact g3 k h
  · have := h.1; omega
theorem jat_sorted {w0 w : World} {j d : Nat} {room : Int} {down : Bool} {L : List Pt} {many : Int} {ps : List Int} {rs : List (List UInt8)} (h : JAt w0 w j d room down L many ps rs) : PSorted L := by
  obtain ⟨⟨J, D, g1, _⟩, _⟩ := h
  exact g1.dsk.sorted
theorem jat_crash {w0 w : World} {j d : Nat} {room : Int} {L : List Pt} {many : Int} {ps : List Int} {rs : List (List UInt8)} (h : JAt w0 w j d room false L many ps rs) (hL : L.length < 1000000000) (keep : Int) (hk0 : -9223372036854775808 ≤ keep) (hk1 : keep ≤ 9223372036854775807) (L' : List Pt) (hL' : pCrash keep.toNat L = L') :
    Calls Try.prog 10 #[.pointer (some ⟨d, 0, none⟩), .int .i64 keep] w fun e w' => e = .returned (.tuple #[]) ∧ (∃ D, Disk w' d D room true L' ∧ ∀ k, D k → w0.heap.size ≤ k) ∧ Kp No w0 w' := by
  obtain ⟨⟨J, D, g1, g2, g3⟩, g4⟩ := h
  have hs := g4.size
  refine (crash_at L' w d D room false L g1.dsk hL keep hk0 hk1 hL').mono ?_
  rintro e w' ⟨rfl, h1, h2⟩
  refine ⟨rfl, ⟨_, h1, fun k hk => ?_⟩, g4.from_ h2 g3⟩
  rcases hk with h | h
  · exact g3 k h
  · have := h.1; omega

set_option maxHeartbeats 4000000 in
set_option maxRecDepth 100000 in
theorem keeps_off (w : World) (many : Int) (A : Option Addr) (nl cl : Nat) (sy keep : Int) (h : 30 < nl ∨ sy < 0 ∨ (nl : Int) < sy) :
    Calls Try.prog 5 #[.int .i64 many, .slice A nl cl, .int .i64 sy, .int .i64 keep] w fun e w' => e = .returned (.bool true) ∧ Kp No w w' := by
  have U := As.mk (up09 w)
  have hcs : (30 : Int) < (nl : Int) ∨ (¬ (30 : Int) < (nl : Int) ∧ sy < 0) ∨ (¬ (30 : Int) < (nl : Int) ∧ ¬ sy < 0 ∧ (nl : Int) < sy) := by omega
  clear h
  rcases hcs with h1 | ⟨h1, h2⟩ | ⟨h1, h2, h3⟩
  all_goals
    go_enter Try.func5, Try.ntmps5
    go_wp2_with (first
      | (go_at_call 26; go_must (refine U.out.mono ?_; rintro e w0 ⟨rfl, hk⟩; have K0 := As.mk hk; clear hk U))
      | (go_at_call 7; go_must (
          refine (disk_new 60000 _ (by decide) (by decide)).mono ?_
          rintro e w1 ⟨d, rfl, hdd, d1, k1⟩
          have K1 := As.mk (K0.out.then_ k1)
          clear d1 k1 K0)))
    go_ret
    exact ⟨rfl, K1.out⟩
set_option maxHeartbeats 4000000 in
set_option maxRecDepth 100000 in
theorem keeps_many (w : World) (many : Int) (A : Option Addr) (nl cl : Nat) (sy keep : Int) (h1 : nl ≤ 30) (h2 : 0 ≤ sy) (h3 : sy ≤ nl) (hm : many < 1 ∨ 100 < many) :
    Calls Try.prog 5 #[.int .i64 many, .slice A nl cl, .int .i64 sy, .int .i64 keep] w fun e w' => e = .returned (.bool true) ∧ Kp No w w' := by
  have U := As.mk (up09 w)
  have g1 : ¬ (30 : Int) < (nl : Int) := by omega
  have g2 : ¬ sy < 0 := by omega
  have g3 : ¬ (nl : Int) < sy := by omega
  have OB := As.mk (fun w d => open_bad w d many hm)
  clear hm
  go_enter Try.func5, Try.ntmps5
  go_wp2_with (first
    | (go_at_call 26; go_must (refine U.out.mono ?_; rintro e w0 ⟨rfl, hk⟩; have K0 := As.mk hk; clear hk U))
    | (go_at_call 7; go_must (
        refine (disk_new 60000 _ (by decide) (by decide)).mono ?_
        rintro e w1 ⟨d, rfl, hdd, d1, k1⟩
        have K1 := As.mk (K0.out.then_ k1)
        clear d1 k1 K0))
    | (go_at_call 27; go_must (
        refine (OB.out _ _).mono ?_
        rintro e w2 ⟨rfl, rfl⟩)))
  go_ret
  exact ⟨rfl, K1.out⟩

set_option maxHeartbeats 8000000 in
set_option maxRecDepth 100000 in
theorem keeps_on (w : World) (m : Nat) (A : Option Addr) (nl cl : Nat) (ls : Rcs) (sy : Nat) (keep : Int) (F : Nat → Prop) (hA : ArgRows w F A ls) (hls : ls.length = nl) (hF : ∀ k, F k → k < w.heap.size) (h1 : nl ≤ 30) (h3 : sy ≤ nl) (hm0 : 1 ≤ m) (hm1 : m ≤ 100)
    (hk0 : -9223372036854775808 ≤ keep) (hk1 : keep ≤ 9223372036854775807) :
    Calls Try.prog 5 #[.int .i64 (m : Int), .slice A nl cl, .int .i64 (sy : Int), .int .i64 keep] w fun e w' => e = .returned (.bool true) ∧ Kp No w w' := by
  have U := As.mk (up09 w)
  have g1 : ¬ (30 : Int) < (nl : Int) := by omega
  have g2 : ¬ (sy : Int) < 0 := by omega
  have g3 : ¬ (nl : Int) < (sy : Int) := by omega
  have g4 : ¬ (m : Int) < 1 := by omega
  have g5 : ¬ (100 : Int) < (m : Int) := by omega
  have HA := As.mk hA
  have HL := As.mk hls
  have HF := As.mk hF
  clear hA hls hF
  go_enter Try.func5, Try.ntmps5
  go_wp2_with (first
    | (go_at_call 26; go_must (refine U.out.mono ?_; rintro e w0 ⟨rfl, hk⟩; have K0 := As.mk hk; clear hk U))
    | (go_at_call 7; go_must (
        refine (disk_new 60000 _ (by decide) (by decide)).mono ?_
        rintro e w1 ⟨d, rfl, hdd, d1, k1⟩
        have D1 := As.mk d1
        have S0 := As.mk K0.out.size
        have K1 := As.mk (K0.out.then_ k1)
        clear d1 k1 K0))
    | (go_at_call 27; go_must (
        refine (jat_open w w1 d _ 60000 false [] (m : Int) D1.out (fun k hk => Nat.le_trans S0.out hk.1) K1.out (by decide) (fun x hx => by cases hx) (by omega) (by omega) [] [] [] rfl).mono ?_
        rintro e w2 ⟨j, rfl, hj⟩
        have J2 := As.mk hj
        clear hj)))
  go_loopw [14] (fun vi wr => ∃ (i : Nat) (L : List Pt) (ps : List Int), vi = .int .i64 (i : Int) ∧ i ≤ nl ∧ As (Good (ls.take i)) ∧ As (KSt m (ls.take i) (if sy ≤ i then sy else 0) L ps) ∧ As (JAt w wr j d 60000 false L (m : Int) ps (ls.take i))) (fun vi _ => nl - (intOf vi).toNat)
  case atStart => exact ⟨0, [], [], rfl, Nat.zero_le _, ⟨fun r hr => by simp at hr⟩, ⟨.inl ⟨rfl, by split <;> omega, rfl, rfl⟩⟩, J2⟩
  case round =>
    obtain ⟨i, L, ps, rfl, hi, GD, KS, JT⟩ := hrel
    by_cases hlt : i < nl
    · obtain ⟨r, hr⟩ : ∃ r, ls[i]? = some r := ⟨_, List.getElem?_eq_getElem (by have := HL.out; omega)⟩
      obtain ⟨g, o, rfl, hcells⟩ := HA.out (by intro e; rw [e] at hr; simp at hr)
      obtain ⟨Ai, ci, hcell0, hFg, hrd0⟩ := hcells i r hr
      have hcell := JT.out.kp.cell hcell0 id
      obtain ⟨li, hli⟩ : ∃ li, li = r.length := ⟨_, rfl⟩
      rw [← hli] at hcell
      have RD := As.mk (hrd0.keep JT.out.kp)
      have LI := As.mk hli
      have RR := As.mk hr
      clear hcells hcell0 hrd0 hFg hli hr
      by_cases hl1 : li < 1
      · have hl1' : (li : Int) < 1 := by omega
        have KK := As.mk JT.out.kp
        go_wp2_with fail
        go_ret
        exact ⟨rfl, KK.out⟩
      · by_cases hl2 : 1000 < li
        · have hl1' : ¬ (li : Int) < 1 := by omega
          have hl2' : (1000 : Int) < (li : Int) := by omega
          have KK := As.mk JT.out.kp
          go_wp2_with fail
          go_ret
          exact ⟨rfl, KK.out⟩
        · have hl1' : ¬ (li : Int) < 1 := by omega
          have hl2' : ¬ (1000 : Int) < (li : Int) := by omega
          have hmild := (KS.out.mild (by rw [List.length_take]; omega))
          obtain ⟨L', ps', hK', hcase⟩ := KS.out.append (jat_sorted JT.out) hm0 r (by rw [List.length_take]; omega) GD.out (by have := LI.out; omega)
          have htk : ls.take i ++ [r] = ls.take (i + 1) := by rw [List.take_add_one, RR.out]; rfl
          rw [htk] at hK'
          have AP := As.mk (jat_append JT.out hmild.1 (by rw [List.length_take]; omega) (by omega) F Ai li ci r RD.out LI.out.symm (by omega) (by omega) HF.out L' ps' (by have := hmild.2.1; omega) hcase)
          rw [htk] at AP
          have hgood : Good (ls.take (i + 1)) := by
            rw [← htk]
            intro q hq
            rcases List.mem_append.1 hq with hq | hq
            · exact GD.out q hq
            · rw [List.mem_singleton.1 hq]; have := LI.out; omega
          have GD2 := As.mk hgood
          have KS2 := As.mk hK'
          clear hmild hcase htk hgood hK'
          by_cases hs : i + 1 = sy
          · have hsb : ((i : Int) + 1 == (sy : Int)) = true := by rw [beq_iff_eq]; omega
            go_wp2_with (first
              | (go_at_call 28; go_must (
                  refine AP.out.mono ?_
                  rintro e w3 ⟨rfl, hj⟩
                  have J3 := As.mk hj
                  clear hj AP))
              | (go_at_call 29; go_must (
                  obtain ⟨p1, p2⟩ := KS2.out.sync (jat_sorted J3.out)
                  obtain ⟨L'', hL''⟩ : ∃ L'', L'' = jsyncL false L' ps' := ⟨_, rfl⟩
                  rw [← hL''] at p2
                  refine (jat_sync J3.out (KS2.out.mild (by rw [List.length_take]; omega)).1 L'' hL'' p1).mono ?_
                  rintro e w4 ⟨rfl, hj⟩
                  have J4 := As.mk hj
                  have KS4 := As.mk p2
                  clear hj J3 p1 p2 hL'')))
            have el : (ls.take (i + 1)).length = sy := by rw [List.length_take]; have := HL.out; omega
            exact ⟨⟨i + 1, L'', ps', by go_num, by omega, GD2, ⟨by rw [if_pos (by omega), ← el]; exact KS4.out⟩, J4⟩, by simp [intOf]; omega⟩
          · have hsb : ((i : Int) + 1 == (sy : Int)) = false := by rw [beq_eq_false_iff_ne]; omega
            go_wp2_with (first
              | (go_at_call 28; go_must (
                  refine AP.out.mono ?_
                  rintro e w3 ⟨rfl, hj⟩
                  have J3 := As.mk hj
                  clear hj AP)))
            have es : (if sy ≤ i + 1 then sy else 0) = (if sy ≤ i then sy else 0) := by split <;> split <;> omega
            exact ⟨⟨i + 1, L', ps', by go_num, by omega, GD2, ⟨by rw [es]; exact KS2.out⟩, J3⟩, by simp [intOf]; omega⟩
    · have hge : ¬ i < nl := hlt
      have hin : i = nl := by omega
      have htk : ls.take i = ls := List.take_of_length_le (by have := HL.out; omega)
      have hsi : (if sy ≤ i then sy else 0) = sy := if_pos (by omega)
      rw [htk] at GD KS JT
      rw [hsi] at KS
      obtain ⟨q, L', ps', hload, hq1, hq2, hf0, hm2, hlc, hnc⟩ := KS.out.crash GD.out (by have := HL.out; omega) keep.toNat
      obtain ⟨Lc, hLc⟩ : ∃ Lc, Lc = pCrash keep.toNat L := ⟨_, rfl⟩
      rw [← hLc] at hload hlc hnc
      have LC := As.mk hLc
      have GDA := As.mk GD.out
      have LD := As.mk hload
      have LN := As.mk hnc
      have F0 := As.mk hf0
      have M2 := As.mk hm2
      have hLl := (KS.out.mild (by have := HL.out; omega)).2.1
      obtain ⟨R, hR⟩ : ∃ R, R = ls.take q := ⟨_, rfl⟩
      have hRl : R.length = q := by rw [hR, List.length_take]; have := HL.out; omega
      have hN0 : jNext ps' R = (q : Int) := by unfold jNext; rw [hf0, hRl]; omega
      have N0 := As.mk hN0
      have RL := As.mk hRl
      have RD := As.mk hR
      rw [← hR] at LD
      have hqs : ¬ (q : Int) < (sy : Int) := by omega
      have hqn : ¬ (nl : Int) < (q : Int) := by have := HL.out; omega
      have hq30 : q ≤ 30 := by have := HL.out; omega
      have hb1 : decide (q < sy) = false := by rw [decide_eq_false_iff_not]; omega
      have hb2 : decide (nl < q) = false := by rw [decide_eq_false_iff_not]; omega
      have hb3 : decide ((q : Int) < (sy : Int)) = false := by rw [decide_eq_false_iff_not]; omega
      have hb4 : decide ((nl : Int) < (q : Int)) = false := by rw [decide_eq_false_iff_not]; omega
      clear hload hLc hnc hf0 hm2 hR hRl hN0 hq1 hq2 htk hsi
      go_wp2_with (first
        | (go_at_call 10; go_must (
            refine (jat_crash JT.out (by omega) keep hk0 hk1 Lc LC.out.symm).mono ?_
            rintro e w5 ⟨rfl, ⟨D, hd, hD⟩, hk⟩
            have D5 := As.mk hd
            have DD5 := As.mk hD
            have K5 := As.mk hk
            clear hd hD hk))
        | (go_at_call 27; go_must (
            refine (jat_open w w5 d D 60000 true Lc (m : Int) D5.out DD5.out K5.out (by omega) LN.out (by omega) (by omega) L' ps' R LD.out).mono ?_
            rintro e w6 ⟨k, rfl, hj⟩
            have J6 := As.mk hj
            clear hj))
        | (go_at_call 30; go_must (
            refine (jat_first J6.out 0 F0.out).mono ?_
            rintro e w7 ⟨rfl, rfl⟩))
        | (go_at_call 31; go_must (
            refine (jat_next J6.out M2.out (by have := RL.out; omega) (q : Int) N0.out).mono ?_
            rintro e w8 ⟨rfl, qn, rfl⟩
            have J6 := As.mk (J6.out.keep ((Kp.refl _ _).drewN qn)))))
      clear KS GD JT D5 DD5 K5 J2
      go_loopw [19] (fun vi wr => ∃ (p : Nat), vi = .int .i64 (p : Int) ∧ p ≤ q ∧ As (JAt w wr k d 60000 false L' (m : Int) ps' R)) (fun vi _ => q - (intOf vi).toNat)
      case atStart => exact ⟨0, rfl, Nat.zero_le _, ⟨by rw [← World.drewN_drewN]; exact J6.out⟩⟩
      case round =>
        obtain ⟨p, rfl, hp, J7⟩ := hrel
        by_cases hpq : p < q
        · obtain ⟨r, hr⟩ : ∃ r, R[p]? = some r := ⟨_, List.getElem?_eq_getElem (by have := RL.out; omega)⟩
          have hrl : ls[p]? = some r := by
            have := hr
            rw [RD.out, List.getElem?_take] at this
            rw [if_pos hpq] at this
            exact this
          obtain ⟨g, o, rfl, hcells⟩ := HA.out (by intro e; rw [e] at hrl; simp at hrl)
          obtain ⟨Ai, ci, hcell0, hFg, hrd0⟩ := hcells p r hrl
          have hr1000 : r.length ≤ 1000 := by
            have : r ∈ ls := List.mem_of_getElem? hrl
            exact (GDA.out r this).2
          obtain ⟨lr, hlr⟩ : ∃ lr, lr = r.length := ⟨_, rfl⟩
          rw [← hlr] at hcell0 hr1000
          obtain ⟨T, hT⟩ : ∃ T : ByteArray, T.data.toList = r := ⟨⟨r.toArray⟩, by simp⟩
          have TT := As.mk hT
          have LR := As.mk hlr
          have RR := As.mk hr
          have RA := As.mk hrd0
          have CC := As.mk hcell0
          have hpn : (p : Int) < (nl : Int) := by omega
          have hp0 : (0 : Int) ≤ (p : Int) := by omega
          clear hcells hrl hcell0 hFg hrd0 hlr hr hT
          go_wp2_with (first
            | (go_at_call 31; go_must (
                refine (jat_next J7.out M2.out (by have := RL.out; omega) (q : Int) N0.out).mono ?_
                rintro e w8 ⟨rfl, qn, rfl⟩
                have J8 := As.mk (J7.out.keep ((Kp.refl _ _).drewN qn))
                clear J7))
            | (go_at_call 32; go_must (
                refine (jat_rec J8.out M2.out (by have := RL.out; omega) (p : Int) p (by rw [F0.out]; omega) r RR.out lr LR.out.symm (by omega)).mono ?_
                rintro e w9 ⟨A9, c9, rfl, r9, k9⟩
                have R9 := As.mk r9
                have J9 := As.mk (J8.out.keep k9)
                clear r9 k9 J8)))
          refine wp_region_plan (fun w' => (convert 22 9 (.slice A9 lr c9)).run Try.prog w' = .ok (.string T) w' ∧ w'.cell? ⟨g, o + p, none⟩ = some (.slice Ai lr ci) ∧ (convert 22 9 (.slice Ai lr ci)).run Try.prog w' = .ok (.string T) w') (by kernel_rfl) ?_
          have hK9 := (Kp.refl No w9).drew
          have hS : (convert 22 9 (.slice A9 lr c9)).run Try.prog w9.drew = .ok (.string T) w9.drew ∧ w9.drew.cell? ⟨g, o + p, none⟩ = some (.slice Ai lr ci) ∧ (convert 22 9 (.slice Ai lr ci)).run Try.prog w9.drew = .ok (.string T) w9.drew :=
            ⟨convJ LR.out.symm TT.out (R9.out.keep hK9), (J9.out.kp.then_ hK9).cell CC.out id, convJ LR.out.symm TT.out (RA.out.keep (J9.out.kp.then_ hK9))⟩
          have J10 := As.mk (J9.out.keep hK9)
          revert hS J10
          clear hK9
          generalize w9.drew = w10
          intro hS J10
          simp only [lexOf, Nat.reduceAdd, List.size_toArray, List.length_cons, List.length_nil, Array.replicate, List.replicate]
          repeat
            refine plan_take (v := ?_) rfl (by kernel_rfl) (by rfl) hS ?_ ?_
            rotate_left 1
            · intro w hSw; obtain ⟨hs1, hs2, hs3⟩ := hSw; go_simp
              try with_reducible rfl
            simp only [Act.put, List.setIfInBounds_toArray, List.set_cons_zero, List.set_cons_succ]
          refine plan_done (by kernel_rfl) (NoPanic.normal ?_)
          clear hS
          go_wp2
          exact ⟨⟨p + 1, by go_num, by omega, J10⟩, by simp [intOf]; omega⟩
        · have hge2 : ¬ p < q := hpq
          go_wp2_with (go_at_call 31; go_must (
                refine (jat_next J7.out M2.out (by have := RL.out; omega) (q : Int) N0.out).mono ?_
                rintro e w8 ⟨rfl, qn, rfl⟩
                have KK := As.mk ((J7.out.keep ((Kp.refl _ _).drewN qn)).kp)
                clear J7))
          go_ret
          exact ⟨rfl, KK.out⟩
end Go.Proofs.Ytnonbimelkagpaa
