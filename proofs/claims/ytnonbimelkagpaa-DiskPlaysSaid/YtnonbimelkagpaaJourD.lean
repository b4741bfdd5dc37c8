/- journal: Record. -/
import Derived.Test.YtnonbimelkagpaaJourC
namespace Go.Proofs.Ytnonbimelkagpaa
set_option linter.unusedVariables false
set_option linter.unusedSimpArgs false
open Go.RowKit Go.Lib

set_option maxHeartbeats 2000000 in
set_option maxRecDepth 100000 in
theorem rec_bad (w : World) (j : Nat) (J : Nat → Prop) (d : Nat) (D : Nat → Prop) (room : Int) (down : Bool) (L : List Pt) (many : Int) (ps : List Int) (rs : List (List UInt8)) (h : Jr w j J d D room down L many ps rs) (hm : Mild ps) (hl : rs.length ≤ 1000000) (n : Int) (hn : n < jFirst ps ∨ jNext ps rs ≤ n) :
    Calls Try.prog 32 #[.pointer (some ⟨j, 0, none⟩), .int .i64 n] w fun e w' => e = .returned (.tuple #[.slice none 0 0, .iface 36 (.int .i64 4)]) ∧ Kp No w w' := by
  obtain ⟨vp, vl, h1, h2, h3, h4, h5, h6, h7⟩ := h
  obtain ⟨c0, c1, c2, c3, fz⟩ := blk4 h1
  have F1 := As.mk (first_any w j J vp ps c2 h4)
  have F2 := As.mk (next_any w j J J vp vl ps rs c2 c3 h4 h5 hm hl)
  obtain ⟨f, hf⟩ : ∃ f, f = jFirst ps := ⟨_, rfl⟩
  obtain ⟨g, hg⟩ : ∃ g, g = jNext ps rs := ⟨_, rfl⟩
  rw [← hf] at F1 hn
  rw [← hg] at F2 hn
  clear h1 h2 h3 h4 h5 h6 h7 hf hg fz c0 c1 c2 c3
  by_cases h0 : n < f
  · clear hn
    go_enter Try.func32, Try.ntmps32
    go_wp2_with (go_at_call 30; go_must (refine F1.out.mono ?_; rintro e w1 ⟨rfl, rfl⟩))
    go_ret2
    exact ⟨rfl, Kp.refl _ _⟩
  · have h1 : g ≤ n := by omega
    clear hn
    go_enter Try.func32, Try.ntmps32
    go_wp2_with (first
      | (go_at_call 30; go_must (refine F1.out.mono ?_; rintro e w1 ⟨rfl, rfl⟩))
      | (go_at_call 31; go_must (refine F2.out.mono ?_; rintro e w2 ⟨rfl, q, rfl⟩)))
    go_ret2
    exact ⟨rfl, (Kp.refl _ _).drewN _⟩

set_option maxHeartbeats 4000000 in
set_option maxRecDepth 100000 in
theorem rec_ok (w : World) (j : Nat) (J : Nat → Prop) (d : Nat) (D : Nat → Prop) (room : Int) (down : Bool) (L : List Pt) (many : Int) (ps : List Int) (rs : List (List UInt8)) (h : Jr w j J d D room down L many ps rs) (hm : Mild ps) (hl : rs.length ≤ 1000000) (n : Int) (i : Nat) (hn : n = jFirst ps + i) (r : List UInt8) (hi : rs[i]? = some r) (hrl : r.length ≤ 1000000000) :
    Calls Try.prog 32 #[.pointer (some ⟨j, 0, none⟩), .int .i64 n] w fun e w' => ∃ A c, e = .returned (.tuple #[.slice A r.length c, .nilIface]) ∧ Rd w' (fun k => New w k ∧ k < w'.heap.size) A (u8s r) ∧ Kp No w w' := by
  obtain ⟨vp, vl, h1, h2, h3, h4, h5, h6, h7⟩ := h
  obtain ⟨c0, c1, c2, c3, fz⟩ := blk4 h1
  have hf0 := hm.first
  have hil := (List.getElem?_eq_some_iff.1 hi).1
  have F1 := As.mk (fun q => first_any (w.drewN q) j J vp ps c2 h4)
  have F2 := As.mk (next_any w j J J vp vl ps rs c2 c3 h4 h5 hm hl)
  obtain ⟨f, hf⟩ : ∃ f, f = jFirst ps := ⟨_, rfl⟩
  have hg : jNext ps rs = f + rs.length := by rw [hf]; rfl
  rw [← hf] at F1 hn hf0
  rw [hg] at F2
  obtain ⟨cs, hown, hrec⟩ := h5
  obtain ⟨u, hu, Ar, cr, rfl, hcr, hrd⟩ := hrec i r hi
  obtain ⟨gl, ca, rfl, hcell⟩ : ∃ gl ca, vl = .slice (some ⟨gl, 0, none⟩) rs.length ca ∧ w.cell? ⟨gl, i, none⟩ = some (.slice Ar r.length cr) := by
    rcases hown.1.2 with ⟨_, h0⟩ | ⟨g, cap, cur, rfl, _⟩
    · omega
    · refine ⟨g, cap, rfl, ?_⟩
      have := hown.1.cells (g := g) rfl i _ hu
      simpa [add_plain'] using this
  obtain ⟨nr, hnr⟩ : ∃ nr, nr = rs.length := ⟨_, rfl⟩
  obtain ⟨lr, hlr⟩ : ∃ lr, lr = r.length := ⟨_, rfl⟩
  have CL := As.mk (fun w' (hk : Kp No w w') => clone_any J Ar cr r w' (hrd.rd.keep hk) hrl hcr)
  have hlr0 : lr ≤ 1000000000 := by omega
  rw [← hlr] at CL hcell
  rw [← hlr]
  rw [← hnr] at c3 F2 hil hl
  have hw := IntWalk.i64_in (n - f) (by omega)
  have hw2 : n - f = (i : Int) := by omega
  rw [hw2] at hw
  have hw3 := (IntWalk.i64_in (n - f) (by omega)).trans hw2
  have g1 : ¬ n < f := by omega
  have g2 : ¬ f + (nr : Int) ≤ n := by omega
  have hi0 : (0 : Int) ≤ (i : Int) := by omega
  have hi1 : (i : Int) < (nr : Int) := by omega
  have LR := As.mk hlr
  clear h1 h2 h3 h4 h6 h7 hf hg fz c0 c1 hown hrec hu hrd hcr hi hn hnr hm hw hw2 hlr hrl
  go_enter Try.func32, Try.ntmps32
  go_wp2_with (first
    | (go_at_call 30; go_must (refine (F1.out 0).mono ?_; rintro e w1 ⟨rfl, rfl⟩))
    | (go_at_call 31; go_must (refine F2.out.mono ?_; rintro e w2 ⟨rfl, q, rfl⟩)))
  refine wp_region_plan (fun w' => w'.cell? ⟨j, 3, none⟩ = some (.slice (some ⟨gl, 0, none⟩) nr ca) ∧ w'.cell? ⟨gl, i, none⟩ = some (.slice Ar lr cr) ∧ Kp No w w') (by kernel_rfl) ?_
  have hS : (w.drewN q).drew.cell? ⟨j, 3, none⟩ = some (.slice (some ⟨gl, 0, none⟩) nr ca) ∧ (w.drewN q).drew.cell? ⟨gl, i, none⟩ = some (.slice Ar lr cr) ∧ Kp No w (w.drewN q).drew := ⟨c3, hcell, ((Kp.refl _ _).drewN _).drew⟩
  have FW := As.mk (show Calls Try.prog 30 #[.pointer (some ⟨j, 0, none⟩)] (w.drewN q).drew fun e w' => e = .returned (.int .i64 f) ∧ w' = (w.drewN q).drew from F1.out (q + 1))
  revert hS FW
  generalize (w.drewN q).drew = w6
  intro hS FW
  simp only [lexOf, Nat.reduceAdd, List.size_toArray, List.length_cons, List.length_nil, Array.replicate, List.replicate]
  repeat
    refine plan_take (v := ?_) rfl (by kernel_rfl) (by rfl) hS ?_ ?_
    rotate_left 1
    · intro w hSw; obtain ⟨hs1, hs2, _⟩ := hSw; go_simp
      try with_reducible rfl
    simp only [Act.put, List.setIfInBounds_toArray, List.set_cons_zero, List.set_cons_succ]
  refine plan_do rfl (by kernel_rfl) (by rfl) (fun K hK => ?_)
  go_simp
  go_at_call 30
  refine FW.out.mono ?_
  rintro e w7 ⟨rfl, rfl⟩
  refine hK.out _ _ hS ?_
  clear K hK
  simp only [Act.put, List.setIfInBounds_toArray, List.set_cons_zero, List.set_cons_succ]
  repeat
    refine plan_take (v := ?_) rfl (by kernel_rfl) (by rfl) hS ?_ ?_
    rotate_left 1
    · intro w hSw; obtain ⟨hs1, hs2, _⟩ := hSw; go_simp
      try with_reducible rfl
    simp only [Act.put, List.setIfInBounds_toArray, List.set_cons_zero, List.set_cons_succ]
  refine plan_do rfl (by kernel_rfl) (by rfl) (fun K hK => ?_)
  go_simp
  go_at_call 34
  have S7 := As.mk hS.2.2.size
  refine (CL.out _ hS.2.2).mono ?_
  rintro e w8 ⟨v8, rfl, o8, k8⟩
  replace hS := And.intro (k8.cell hS.1 id) (And.intro (k8.cell hS.2.1 id) (hS.2.2.then_ k8))
  obtain ⟨A8, c8, rfl, _, _, r8⟩ := o8.read
  have R8 := As.mk r8
  refine hK.out _ _ hS ?_
  clear K hK o8 r8
  simp only [Act.put, List.setIfInBounds_toArray, List.set_cons_zero, List.set_cons_succ]
  repeat
    refine plan_take (v := ?_) rfl (by kernel_rfl) (by rfl) hS ?_ ?_
    rotate_left 1
    · intro w hSw; go_simp
      try with_reducible rfl
    simp only [Act.put, List.setIfInBounds_toArray, List.set_cons_zero, List.set_cons_succ]
  refine plan_done (by kernel_rfl) (NoPanic.normal ?_)
  have KK := As.mk hS.2.2
  have K68 := As.mk k8
  clear hS k8
  go_wp2
  go_ret2
  exact ⟨A8, c8, rfl, R8.out.mono (fun k hk => ⟨Nat.le_trans S7.out hk.1, hk.2⟩), KK.out⟩
end Go.Proofs.Ytnonbimelkagpaa
