/- journal: Sync, Record. -/
import Derived.Test.YtnonbimelkagpaaJourB
import Derived.Test.YtnonbimelkagpaaLaw08
namespace Go.Proofs.Ytnonbimelkagpaa
set_option linter.unusedVariables false
set_option linter.unusedSimpArgs false
open Go.RowKit Go.Lib

def jLast (ps : List Int) : Int := ps.getLastD 0
theorem Mild.last {ps : List Int} (h : Mild ps) : -1000000000000 ≤ jLast ps ∧ jLast ps ≤ 1000000000000 := by
  unfold jLast
  cases hp : ps with
  | nil => simp
  | cons p r =>
    rw [List.getLastD_cons]
    have : (p :: r).getLast (by simp) ∈ ps := by rw [hp]; exact List.getLast_mem _
    rw [List.getLast_eq_getLastD] at this
    exact h.2 _ this
/-- The disk alone has turned. -/
theorem Jr.disk {w w' : World} {j : Nat} {J : Nat → Prop} {d : Nat} {D : Nat → Prop} {room : Int} {down down' : Bool} {L L' : List Pt} {many : Int} {ps : List Int} {rs : List (List UInt8)} (h : Jr w j J d D room down L many ps rs) (hk : Kp D w w') (hd : Disk w' d (Gr D w w') room down' L') : Jr w' j J d (Gr D w w') room down' L' many ps rs := by
  obtain ⟨vp, vl, h1, h2, h3, h4, h5, h6, h7⟩ := h
  have hn : ∀ k, J k → ¬ D k := fun k hj hd => h7 k hd hj
  refine ⟨vp, vl, hk.heap h1 (hn _ h2), h2, fun k hj => Nat.lt_of_lt_of_le (h3 k hj) hk.size, h4.kp hk hn, h5.kp hk hn, hd, fun k hg hj => ?_⟩
  rcases hg with hg | hg
  · exact h7 k hg hj
  · have := h3 k hj; omega
theorem Jr.keep {w w' : World} {j : Nat} {J : Nat → Prop} {d : Nat} {D : Nat → Prop} {room : Int} {down : Bool} {L : List Pt} {many : Int} {ps : List Int} {rs : List (List UInt8)} (h : Jr w j J d D room down L many ps rs) (hk : Kp No w w') : Jr w' j J d D room down L many ps rs := by
  obtain ⟨vp, vl, h1, h2, h3, h4, h5, h6, h7⟩ := h
  exact ⟨vp, vl, hk.heap h1 id, h2, fun k hj => Nat.lt_of_lt_of_le (h3 k hj) hk.size, h4.keep hk, h5.keep hk, h6.keep hk, h7⟩
theorem Jr.lt {w : World} {j : Nat} {J : Nat → Prop} {d : Nat} {D : Nat → Prop} {room : Int} {down : Bool} {L : List Pt} {many : Int} {ps : List Int} {rs : List (List UInt8)} (h : Jr w j J d D room down L many ps rs) : ∀ k, J k → k < w.heap.size := by
  obtain ⟨vp, vl, h1, h2, h3, _⟩ := h
  exact h3
theorem Jr.dsk {w : World} {j : Nat} {J : Nat → Prop} {d : Nat} {D : Nat → Prop} {room : Int} {down : Bool} {L : List Pt} {many : Int} {ps : List Int} {rs : List (List UInt8)} (h : Jr w j J d D room down L many ps rs) : Disk w d D room down L := by
  obtain ⟨vp, vl, h1, h2, h3, h4, h5, h6, _⟩ := h
  exact h6
theorem Jr.mono {w : World} {j : Nat} {J J' : Nat → Prop} {d : Nat} {D D' : Nat → Prop} {room : Int} {down : Bool} {L : List Pt} {many : Int} {ps : List Int} {rs : List (List UInt8)} (h : Jr w j J d D room down L many ps rs) (hJ : ∀ k, J k → J' k) (hD : ∀ k, D k → D' k) (hJ' : ∀ k, J' k → k < w.heap.size) (hD' : ∀ k, D' k → k < w.heap.size) (hx : ∀ k, D' k → ¬ J' k) : Jr w j J' d D' room down L many ps rs := by
  obtain ⟨vp, vl, h1, h2, h3, h4, h5, h6, _⟩ := h
  exact ⟨vp, vl, h1, hJ _ h2, hJ', h4.mono (fun k _ hk => hJ k hk), h5.mono (fun k _ hk => hJ k hk), h6.mono hD hD', hx⟩

def jsyncCode (down : Bool) (L : List Pt) (ps : List Int) : Nat := if ps = [] then 0 else partCode down L (jLast ps)
def jsyncL (down : Bool) (L : List Pt) (ps : List Int) : List Pt := if ps = [] then L else if partCode down L (jLast ps) = 0 then pSync (jLast ps) L else L

set_option maxHeartbeats 2000000 in
set_option maxRecDepth 100000 in
theorem jsync_any (w : World) (j : Nat) (J : Nat → Prop) (d : Nat) (D : Nat → Prop) (room : Int) (down : Bool) (L : List Pt) (many : Int) (ps : List Int) (rs : List (List UInt8)) (h : Jr w j J d D room down L many ps rs) (hm : Mild ps) :
    Calls Try.prog 29 #[.pointer (some ⟨j, 0, none⟩)] w fun e w' => e = .returned (errV (jsyncCode down L ps)) ∧ Jr w' j J d (Gr D w w') room down (jsyncL down L ps) many ps rs ∧ Kp D w w' := by
  have H := As.mk h
  obtain ⟨vp, vl, h1, h2, h3, h4, h5, h6, h7⟩ := h
  obtain ⟨A, c, rfl, _, _, i3, i4⟩ := ints_see h4
  obtain ⟨c0, c1, c2, c3, fz⟩ := blk4 h1
  by_cases hp : ps = []
  · have e1 : jsyncCode down L ps = 0 := if_pos hp
    have e2 : jsyncL down L ps = L := if_pos hp
    have hl : ((ps.length : Int) == 0) = true := by rw [hp]; rfl
    rw [e1, e2]
    have he : errV 0 = .nilIface := rfl
    rw [he]
    clear h1 h2 h3 h4 h5 h6 h7 i3 i4 hp e1 e2 fz c0 c1 c3 he
    go_enter Try.func29, Try.ntmps29
    go_wp2
    go_ret
    exact ⟨rfl, H.out.disk (Kp.refl _ _) (H.out.dsk.mono (fun k hk => .inl hk) (Gr.lt H.out.dsk.lt (Nat.le_refl _))), Kp.refl _ _⟩
  · have e1 : jsyncCode down L ps = partCode down L (jLast ps) := if_neg hp
    have e2 : jsyncL down L ps = if partCode down L (jLast ps) = 0 then pSync (jLast ps) L else L := if_neg hp
    obtain ⟨C, hC⟩ : ∃ C, C = jsyncCode down L ps := ⟨_, rfl⟩
    obtain ⟨L', hL'⟩ : ∃ L', L' = jsyncL down L ps := ⟨_, rfl⟩
    rw [← hC, ← hL']
    rw [← hC] at e1
    rw [← hL'] at e2
    obtain ⟨g, rfl, hg⟩ := i3 hp
    have hlen : 0 < ps.length := List.length_pos_iff.2 hp
    have hml := hm.last
    have hlast : ps[ps.length - 1]? = some (jLast ps) := by
      unfold jLast
      cases ps with
      | nil => exact absurd rfl hp
      | cons p r =>
        rw [List.getLastD_cons, ← List.getLast?_eq_getElem?, List.getLast?_cons, List.getLastD_eq_getLast?]
    obtain ⟨n, hn⟩ : ∃ n, n = ps.length := ⟨_, rfl⟩
    obtain ⟨m, hmn⟩ : ∃ m, m = ps.length - 1 := ⟨_, rfl⟩
    have hnm : n = m + 1 := by omega
    have hcl := i4 g rfl m (jLast ps) (by rw [hmn]; exact hlast)
    obtain ⟨p, hpp⟩ : ∃ p, p = jLast ps := ⟨_, rfl⟩
    rw [← hpp] at hcl hml e1 e2
    rw [← hn] at c2
    have hnb : n ≤ 1000000 := by rw [hn]; exact hm.1
    have hw2 : (n : Int) - 1 = (m : Int) := by omega
    have hw := (IntWalk.i64_in ((n : Int) - 1) (by omega)).trans hw2
    have hl : ((n : Int) == 0) = false := by rw [beq_eq_false_iff_ne]; omega
    have hmi : (m : Int) < (n : Int) := by omega
    have hm0 : (0 : Int) ≤ (m : Int) := by omega
    have HS := As.mk (fun w6 (hk : Kp No w w6) => sync_at (errV C) L' w6 d D room down L (h6.keep hk) p (by omega) (by rw [e1]) (by rw [e2]))
    have KB := As.mk (fun (w6 w' : World) (hk0 : Kp No w w6) (hk : Kp D w6 w') => And.intro ((hk.cell (hk0.cell c0 id) (fun hd => h7 _ hd h2))) (And.intro ((hk.cell (hk0.cell c2 id) (fun hd => h7 _ hd h2))) ((hk.cell (hk0.cell hcl id) (fun hd => h7 _ hd hg)))))
    clear h1 h2 h3 h4 h5 h6 h7 i3 i4 hp e1 e2 hC hL' fz c1 c3 hlast hmn hpp hn hm hlen hw2 hnm
    go_enter Try.func29, Try.ntmps29
    go_wp2
    refine wp_region_plan (fun w' => w'.cell? ⟨j, 0, none⟩ = some (.pointer (some ⟨d, 0, none⟩)) ∧ w'.cell? ⟨j, 2, none⟩ = some (.slice (some ⟨g, 0, none⟩) n c) ∧ w'.cell? ⟨g, m, none⟩ = some (.int .i64 p)) (by kernel_rfl) ?_
    have hS : w.drew.cell? ⟨j, 0, none⟩ = some (.pointer (some ⟨d, 0, none⟩)) ∧ w.drew.cell? ⟨j, 2, none⟩ = some (.slice (some ⟨g, 0, none⟩) n c) ∧ w.drew.cell? ⟨g, m, none⟩ = some (.int .i64 p) := ⟨c0, c2, hcl⟩
    have K6 := As.mk (Kp.refl No w).drew
    revert hS K6
    generalize w.drew = w6
    intro hS K6
    simp only [lexOf, Nat.reduceAdd, List.size_toArray, List.length_cons, List.length_nil, Array.replicate, List.replicate]
    repeat
      refine plan_take (v := ?_) rfl (by kernel_rfl) (by rfl) hS ?_ ?_
      rotate_left 1
      · intro w hSw; obtain ⟨hs1, hs2, hs3⟩ := hSw; go_simp
        try with_reducible rfl
      simp only [Act.put, List.setIfInBounds_toArray, List.set_cons_zero, List.set_cons_succ]
    refine plan_do rfl (by kernel_rfl) (by rfl) (fun K hK => ?_)
    go_simp
    go_at_call 9
    refine (HS.out w6 K6.out).mono ?_
    rintro e w7 ⟨rfl, hd, kk⟩
    have K7 := As.mk kk
    have D7 := As.mk hd
    replace hS := KB.out w6 w7 K6.out kk
    refine hK.out _ _ hS ?_
    clear K hK kk hd
    simp only [Act.put, List.setIfInBounds_toArray, List.set_cons_zero, List.set_cons_succ]
    repeat
      refine plan_take (v := ?_) rfl (by kernel_rfl) (by rfl) hS ?_ ?_
      rotate_left 1
      · intro w hSw; go_simp
        try with_reducible rfl
      simp only [Act.put, List.setIfInBounds_toArray, List.set_cons_zero, List.set_cons_succ]
    refine plan_done (by kernel_rfl) (NoPanic.normal ?_)
    go_wp2
    go_ret
    have KA : Kp D w w7 := (K6.out.mono (fun _ _ h => h.elim)).trans K7.out (fun _ _ h => h)
    refine ⟨rfl, H.out.disk KA (D7.out.mono ?_ ?_), KA⟩
    · rintro k (hk | hk)
      · exact .inl hk
      · exact .inr ⟨by have := K6.out.size; omega, hk.2⟩
    · exact Gr.lt H.out.dsk.lt KA.size
end Go.Proofs.Ytnonbimelkagpaa
