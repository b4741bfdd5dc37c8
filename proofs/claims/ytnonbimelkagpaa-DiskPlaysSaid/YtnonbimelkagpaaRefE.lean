/- The reference's disk: Crash. -/
import Derived.Test.YtnonbimelkagpaaRefD
namespace Go.Proofs.Ytnonbimelkagpaa
set_option linter.unusedVariables false
set_option linter.unusedSimpArgs false
open Go.RowKit Go.Lib

/-- The reference's disk that has a part, laid open. -/
structure Seen (w : World) (m : Nat) (M : Nat → Prop) (room : Int) (down : Bool) (L : List Pt) (g cc nL : Nat) : Prop where
  blk : w.heap[m]? = some (.cells #[.int .i64 room, .slice (some ⟨g, 0, none⟩) nL cc, .bool down] 40 (0, 0))
  mm : M m
  lt : ∀ k, M k → k < w.heap.size
  own : Own w M 54 3 (.slice (some ⟨g, 0, none⟩) nL cc) nL (ptCells L)
  len : nL = L.length
theorem Ref.seen {w : World} {m : Nat} {M : Nat → Prop} {room : Int} {down : Bool} {L : List Pt} (h : Ref w m M room down L) (hne : L ≠ []) : ∃ g cc, Seen w m M room down L g cc L.length := by
  obtain ⟨v, h1, h2, h3, h4⟩ := h
  obtain ⟨A, cc, rfl, _, _, i3, _⟩ := pts_see h4
  obtain ⟨g, rfl, _⟩ := i3 hne
  exact ⟨g, cc, h1, h2, h3, h4, rfl⟩
section
variable {w : World} {m g cc nL : Nat} {M : Nat → Prop} {room : Int} {down : Bool} {L : List Pt}
theorem Seen.ref (h : Seen w m M room down L g cc nL) : Ref w m M room down L := ⟨_, h.blk, h.mm, h.lt, by have := h.own; rw [← h.len]; exact this⟩
theorem Seen.row (h : Seen w m M room down L g cc nL) : w.cell? ⟨m, 1, none⟩ = some (.slice (some ⟨g, 0, none⟩) nL cc) := (blk3 h.blk).2.1
theorem Seen.part (h : Seen w m M room down L g cc nL) {q : Nat} {x : Pt} (hx : L[q]? = some x) : w.cell? ⟨g, q * 3, none⟩ = some (.int .i64 x.n) ∧ w.cell? ⟨g, q * 3 + 1, none⟩ = some (bstr x.b) ∧ w.cell? ⟨g, q * 3 + 2, none⟩ = some (.int .i64 (x.s : Int)) ∧ ∀ q, w.frozen? ⟨g, q, none⟩ = false := by
  obtain ⟨A, c, e, _, _, _, i4⟩ := pts_see (L := L) (v := .slice (some ⟨g, 0, none⟩) nL cc) (by have := h.own; rw [← h.len]; exact this)
  injection e with e
  exact i4 g e.symm q x hx
theorem Seen.turn (h : Seen w m M room down L g cc nL) {p : Nat} (hp : p < nL * 3) (u : Value) (L2 : List Pt) (he : (ptCells L).set p u = ptCells L2) (hl : L2.length = L.length) : Seen (w.setCell ⟨g, p, none⟩ u) m M room down L2 g cc nL ∧ Kp M w (w.setCell ⟨g, p, none⟩ u) := by
  have hn := h.len
  obtain ⟨⟨v, a, rfl, b2, b3, b4⟩, kp⟩ := Ref.turn (cc := cc) (p := p) (by have := h.blk; rw [hn] at this; exact this) h.mm h.lt (by have := h.own; rw [hn] at this; exact this) (by rw [← hn]; exact hp) u L2 he hl
  have e : L2.length = nL := by rw [hl, hn]
  rw [e] at a b4
  exact ⟨⟨a, b2, b3, b4, e.symm⟩, kp⟩
theorem Seen.drew (h : Seen w m M room down L g cc nL) : Seen w.drew m M room down L g cc nL := ⟨h.blk, h.mm, h.lt, h.own, h.len⟩
end
/-- It goes down, or comes up. -/
theorem Ref.downs {w : World} {m : Nat} {M : Nat → Prop} {room : Int} {down : Bool} {L : List Pt} (h : Ref w m M room down L) (b : Bool) : Ref (w.setCell ⟨m, 2, none⟩ (.bool b)) m M room b L ∧ Kp (Is m) w (w.setCell ⟨m, 2, none⟩ (.bool b)) := by
  obtain ⟨v, h1, h2, h3, h4⟩ := h
  have kp : Kp (Is m) w (w.setCell ⟨m, 2, none⟩ (.bool b)) := (Kp.refl _ w).set 2 _
  refine ⟨⟨v, by rw [blk_set h1]; rfl, h2, fun k hk => Nat.lt_of_lt_of_le (h3 k hk) kp.size, ?_⟩, kp⟩
  exact (h4.only.kp kp (fun k hk he => own_ne h4 h1 (by decide) (by rw [hk.2, show k = m from he]))).mono (fun k _ hk => hk.1)

theorem refCrash_down (w : World) (m : Nat) (M : Nat → Prop) (room : Int) (L : List Pt) (h : Ref w m M room true L) (keep : Int) :
    Calls Try.prog 21 #[.pointer (some ⟨m, 0, none⟩), .int .i64 keep] w fun e w' => e = .returned (.tuple #[]) ∧ w' = w := by
  obtain ⟨v, h1, h2, h3, h4⟩ := h
  obtain ⟨c0, c1, c2, fz⟩ := blk3 h1
  clear h1 h2 h3 h4 fz c1 c0
  go_enter Try.func21, Try.ntmps21
  go_wp2
  exact bodyPost_ret (results_none rfl _ _ _) rfl ⟨rfl, rfl⟩
theorem Ref.cells {w : World} {m : Nat} {M : Nat → Prop} {room : Int} {down : Bool} {L : List Pt} (h : Ref w m M room down L) : ∃ A cc, w.cell? ⟨m, 1, none⟩ = some (.slice A L.length cc) ∧ w.cell? ⟨m, 2, none⟩ = some (.bool down) ∧ (∀ q, w.frozen? ⟨m, q, none⟩ = false) ∧ w.cell? ⟨m, 0, none⟩ = some (.int .i64 room) := by
  obtain ⟨v, h1, h2, h3, h4⟩ := h
  obtain ⟨A, cc, rfl, _⟩ := pts_see h4
  obtain ⟨a, b, c, d⟩ := blk3 h1
  exact ⟨A, cc, b, c, d, a⟩
theorem set_mid (L1 : List Pt) (x y : Pt) (r : List Pt) : (L1 ++ x :: r).set L1.length y = L1 ++ y :: r := by
  rw [List.set_append_right _ _ (Nat.le_refl _), Nat.sub_self, List.set_cons_zero]
theorem at_mid (L1 : List Pt) (x : Pt) (r : List Pt) : (L1 ++ x :: r)[L1.length]? = some x := by
  rw [List.getElem?_append_right (Nat.le_refl _), Nat.sub_self]; rfl
set_option maxHeartbeats 8000000 in
set_option maxRecDepth 100000 in
theorem refCrash_up (w : World) (m : Nat) (M : Nat → Prop) (room : Int) (L : List Pt) (h : Ref w m M room false L) (hL : L.length ≤ 1000000000) (hb : ∀ x ∈ L, x.s ≤ x.b.length ∧ x.b.length ≤ 1000000000) (keep : Int) (hk0 : -9223372036854775808 ≤ keep) (hk1 : keep ≤ 9223372036854775807) :
    Calls Try.prog 21 #[.pointer (some ⟨m, 0, none⟩), .int .i64 keep] w fun e w' => e = .returned (.tuple #[]) ∧ Ref w' m M room true (pCrash keep.toNat L) ∧ Kp M w w' := by
  obtain ⟨nL, hn⟩ : ∃ z, z = L.length := ⟨_, rfl⟩
  obtain ⟨kz, hkz⟩ : ∃ kz, kz = keep.toNat := ⟨_, rfl⟩
  obtain ⟨Z, hZ⟩ : ∃ Z, Z = pCrash kz L := ⟨_, rfl⟩
  have HZ := As.mk hZ
  have HB := As.mk hb
  have HN := As.mk hn
  rw [← hn] at hL
  have H := As.mk h
  obtain ⟨A, cc, c1, c2, _, _⟩ := h.cells
  rw [← hkz, ← hZ]
  rw [← hn] at c1
  clear h hb hZ hn
  have hm : As (M m) := ⟨by obtain ⟨v, _, h2, _⟩ := H.out; exact h2⟩
  go_enter Try.func21, Try.ntmps21
  by_cases hneg : keep < 0
  all_goals
    have hkz2 : As (kz ≤ 9223372036854775807) := ⟨by omega⟩
    first
      | (have hkz0 : kz = 0 := by omega
         subst hkz0)
      | (obtain rfl : keep = (kz : Int) := by omega)
    clear hkz
    go_wp2
    go_loopw [1, 4] (fun vk vi wr => ∃ (i kk : Nat) (L1 L2 : List Pt), vi = .int .i64 (i : Int) ∧ vk = .int .i64 (kk : Int) ∧ i ≤ nL ∧ kk ≤ 9223372036854775807 ∧ As (Ref wr m M room false (L1 ++ L2)) ∧ As (Kp M w wr) ∧
      As (L1.length = i ∧ nL = (L1 ++ L2).length ∧ L1 ++ pCrash kk L2 = Z) ∧ As (∀ x ∈ L2, x.s ≤ x.b.length ∧ x.b.length ≤ 1000000000)) (fun _ vi _ => nL - (intOf vi).toNat)
    case atStart => exact ⟨0, _, [], L, rfl, rfl, by omega, by have := hkz2.out; omega, ⟨H.out⟩, ⟨Kp.refl _ _⟩, ⟨rfl, HN.out, HZ.out.symm⟩, ⟨HB.out⟩⟩
    case round =>
      obtain ⟨i, kk, L1, L2, rfl, rfl, hi, hkk, R, KD, PC, BD⟩ := hrel
      by_cases hlt : i < nL
      · obtain ⟨p1, p2, p3⟩ := PC.out
        obtain ⟨x, r, rfl⟩ : ∃ x r, L2 = x :: r := by
          cases L2 with
          | nil => rw [List.append_nil] at p2; omega
          | cons x r => exact ⟨x, r, rfl⟩
        obtain ⟨g, cc, SN⟩ := R.out.seen (by simp)
        rw [← p2] at SN
        have S0 := As.mk SN
        have hat := at_mid L1 x r
        rw [p1] at hat
        have HAT := As.mk hat
        obtain ⟨_, d1, d2, d3⟩ := SN.part hat
        have c1 := SN.row
        have fz1 := d3 (i * 3 + 1)
        have fz2 := d3 (i * 3 + 2)
        unfold bstr at d1
        obtain ⟨S, hS⟩ : ∃ S : ByteArray, S = ⟨x.b.toArray⟩ := ⟨_, rfl⟩
        have hSz : S.size = x.b.length := by rw [hS]; rfl
        rw [← hS] at d1
        obtain ⟨b1, b2⟩ := BD.out x (List.mem_cons.2 (.inl rfl))
        obtain ⟨xs, hxs⟩ : ∃ z, z = x.s := ⟨_, rfl⟩
        rw [← hxs] at d2 b1
        rw [← hSz] at b1 b2
        obtain ⟨mr, hmr⟩ : ∃ z, z = S.size - xs := ⟨_, rfl⟩
        have hsub : (S.size : Int) - (xs : Int) = (mr : Int) := by omega
        have hmrb : mr ≤ 1000000000 := by omega
        obtain ⟨k0, hk0'⟩ : ∃ z, z = kk := ⟨_, rfl⟩
        obtain ⟨mv, hmv⟩ : ∃ z, z = min kk mr := ⟨_, rfl⟩
        obtain ⟨k2, hk2⟩ : ∃ z, z = kk - mv := ⟨_, rfl⟩
        have hksub : (kk : Int) - (mv : Int) = (k2 : Int) := by omega
        have hq0 : (0 : Int) ≤ (i : Int) := by omega
        have hq1 : (i : Int) < (nL : Int) := by omega
        have hm3 : (xs : Int) + (mv : Int) ≤ (S.size : Int) := by omega
        have hm4 : (0 : Int) ≤ (xs : Int) + (mv : Int) := by omega
        have hwr1 := IntWalk.i64_in (mr : Int) (by omega)
        have hwr2 := IntWalk.i64_in ((xs : Int) + (mv : Int)) (by omega)
        have hwr3 := IntWalk.i64_in (mv : Int) (by omega)
        have hcp : As (cutPt k0 x = ⟨x.n, x.b.take (xs + mv), xs + mv⟩ ∧ k0 - min k0 (x.b.length - x.s) = k2) := ⟨by unfold cutPt; rw [hmv, hmr, hk0', hSz, hxs], by rw [hk2, hmv, hmr, hk0', hSz, hxs]⟩
        have HS := As.mk (show (⟨x.b.toArray⟩ : ByteArray) = S ∧ xs = x.s ∧ k2 ≤ kk from ⟨hS.symm, hxs, by omega⟩)
        have K0 := As.mk hk0'
        have hmvb : mv ≤ 1000000000 := by omega
        clear hS hSz hxs hat SN d3 hmr p1 p2 p3 hk2 hk0'
        by_cases hgt : kk < mr
        all_goals
        first
          | (have e : mv = kk := by omega
             clear hmv
             subst e)
          | (have e : mv = mr := by omega
             clear hmv
             subst e)
        go_wp2
        refine wp_region_plan (fun w' => w'.cell? ⟨m, 1, none⟩ = some (.slice (some ⟨g, 0, none⟩) nL cc) ∧ w'.cell? ⟨g, i * 3 + 1, none⟩ = some (.string S) ∧ w'.cell? ⟨g, i * 3 + 2, none⟩ = some (.int .i64 (xs : Int)) ∧ w'.frozen? ⟨g, i * 3 + 2, none⟩ = false) (by kernel_rfl) ?_
        have hS : wr.drew.cell? ⟨m, 1, none⟩ = some (.slice (some ⟨g, 0, none⟩) nL cc) ∧ wr.drew.cell? ⟨g, i * 3 + 1, none⟩ = some (.string S) ∧ wr.drew.cell? ⟨g, i * 3 + 2, none⟩ = some (.int .i64 (xs : Int)) ∧ wr.drew.frozen? ⟨g, i * 3 + 2, none⟩ = false := ⟨c1, d1, d2, fz2⟩
        simp only [lexOf, Nat.reduceAdd, List.size_toArray, List.length_cons, List.length_nil, Array.replicate, List.replicate]
        iterate 19
          refine plan_take (v := ?_) rfl (by kernel_rfl) (by rfl) hS ?_ ?_
          rotate_left 1
          · intro w hSw; obtain ⟨hs1, hs2, hs3, hs4⟩ := hSw; go_simp
            try with_reducible rfl
          simp only [Act.put, List.setIfInBounds_toArray, List.set_cons_zero, List.set_cons_succ]
        refine plan_done (by kernel_rfl) (NoPanic.normal ?_)
        obtain ⟨W1, hW1⟩ : ∃ W1, W1 = wr.drew := ⟨_, rfl⟩
        rw [← hW1]
        have S1 := As.mk (show Seen W1 m M room false (L1 ++ x :: r) g cc nL by rw [hW1]; exact S0.out.drew)
        have KW1 := As.mk (show Kp M wr W1 by rw [hW1]; exact (Kp.refl _ _).drew)
        replace hS : W1.drew.cell? ⟨m, 1, none⟩ = some (.slice (some ⟨g, 0, none⟩) nL cc) ∧ W1.drew.cell? ⟨g, i * 3 + 1, none⟩ = some (.string S) ∧ W1.drew.cell? ⟨g, i * 3 + 2, none⟩ = some (.int .i64 (xs : Int)) ∧ W1.drew.frozen? ⟨g, i * 3 + 2, none⟩ = false := by rw [hW1]; exact ⟨c1, d1, d2, fz2⟩
        have fz1' : W1.frozen? ⟨g, i * 3 + 1, none⟩ = false := by rw [hW1]; exact fz1
        clear c1 d1 d2 fz2 fz1 hW1
        go_wp2
        refine wp_region_planL [17] (fun w' => w'.cell? ⟨m, 1, none⟩ = some (.slice (some ⟨g, 0, none⟩) nL cc) ∧ w'.cell? ⟨g, i * 3 + 1, none⟩ = some (.string S) ∧ w'.cell? ⟨g, i * 3 + 2, none⟩ = some (.int .i64 (xs : Int)) ∧ w'.frozen? ⟨g, i * 3 + 2, none⟩ = false) (by kernel_rfl) ?_
        simp only [lexOf, Nat.reduceAdd, List.size_toArray, List.length_cons, List.length_nil, Array.replicate, List.replicate]
        iterate 15
          refine planL_take (v := ?_) rfl (by kernel_rfl) (by rfl) hS ?_ ?_
          rotate_left 1
          · intro w hSw; obtain ⟨hs1, hs2, hs3, hs4⟩ := hSw; go_simp
            try with_reducible rfl
          simp only [Act.put, List.setIfInBounds_toArray, List.set_cons_zero, List.set_cons_succ]
        iterate 2
          refine planL_do_at (v := ?_) rfl (by kernel_rfl) (by rfl) hS ?_ ?_
          rotate_left 1
          · obtain ⟨hs1, hs2, hs3, hs4⟩ := hS; go_simp
            try with_reducible rfl
          simp only [Act.put, List.setIfInBounds_toArray, List.set_cons_zero, List.set_cons_succ]
        refine planL_last rfl (by kernel_rfl) (by decide) (by rfl) (fun K hK => ?_)
        obtain ⟨_, hs2, hs3, hs4⟩ := hS
        go_simp
        refine hK.out _ _ ?_
        clear K hK
        simp only [Act.put, List.setIfInBounds_toArray, List.set_cons_zero, List.set_cons_succ]
        refine planL_done (by kernel_rfl) (NoPanic.normal ?_)
        obtain ⟨W2, hW2⟩ : ∃ W2, W2 = W1.drew.setCell ⟨g, i * 3 + 2, none⟩ (.int .i64 ((xs : Int) + (mv : Int))) := ⟨_, rfl⟩
        have R2 := As.mk (show Seen W2 m M room false (L1 ++ ⟨x.n, x.b, xs + mv⟩ :: r) g cc nL ∧ Kp M W1.drew W2 by
          have := S1.out.drew.turn (p := i * 3 + 2) (by omega) (.int .i64 ((xs : Int) + (mv : Int))) (L1 ++ ⟨x.n, x.b, xs + mv⟩ :: r) (by
            have := (ptCells_set (L1 ++ x :: r) i x HAT.out).2 (xs + mv)
            rw [Int.natCast_add] at this
            rw [this]
            congr 1
            have e : L1.length = i := PC.out.1
            rw [← e, set_mid]) (by simp)
          rw [hW2]
          exact this)
        rw [show (W1.setCell ⟨g, i * 3 + 2, none⟩ (.int .i64 ((xs : Int) + (mv : Int)))).drew = W1.drew.setCell ⟨g, i * 3 + 2, none⟩ (.int .i64 ((xs : Int) + (mv : Int))) from rfl, ← hW2]
        have hat2 : (L1 ++ ⟨x.n, x.b, xs + mv⟩ :: r)[i]? = some ⟨x.n, x.b, xs + mv⟩ := by
          have e : L1.length = i := PC.out.1
          rw [← e]
          exact at_mid _ _ _
        replace hS : W2.drew.cell? ⟨m, 1, none⟩ = some (.slice (some ⟨g, 0, none⟩) nL cc) ∧ W2.drew.cell? ⟨g, i * 3 + 1, none⟩ = some (.string S) ∧ W2.drew.cell? ⟨g, i * 3 + 2, none⟩ = some (.int .i64 ((xs : Int) + (mv : Int))) ∧ W2.drew.frozen? ⟨g, i * 3 + 1, none⟩ = false := by
          have S2 := R2.out.1.drew
          obtain ⟨_, d1, d2, d3⟩ := S2.part hat2
          have d1 : W2.drew.cell? ⟨g, i * 3 + 1, none⟩ = some (.string ⟨x.b.toArray⟩) := d1
          rw [HS.out.1] at d1
          exact ⟨S2.row, d1, by rw [d2, Int.natCast_add], d3 _⟩
        clear hW2 fz1' hs2 hs3 hs4
        go_wp2
        refine wp_region_planL [24] (fun w' => w'.cell? ⟨m, 1, none⟩ = some (.slice (some ⟨g, 0, none⟩) nL cc) ∧ w'.cell? ⟨g, i * 3 + 1, none⟩ = some (.string S) ∧ w'.cell? ⟨g, i * 3 + 2, none⟩ = some (.int .i64 ((xs : Int) + (mv : Int))) ∧ w'.frozen? ⟨g, i * 3 + 1, none⟩ = false) (by kernel_rfl) ?_
        simp only [lexOf, Nat.reduceAdd, List.size_toArray, List.length_cons, List.length_nil, Array.replicate, List.replicate]
        iterate 22
          refine planL_take (v := ?_) rfl (by kernel_rfl) (by rfl) hS ?_ ?_
          rotate_left 1
          · intro w hSw; obtain ⟨hs1, hs2, hs3, hs4⟩ := hSw; go_simp
            try with_reducible rfl
          simp only [Act.put, List.setIfInBounds_toArray, List.set_cons_zero, List.set_cons_succ]
        iterate 2
          refine planL_do_at (v := ?_) rfl (by kernel_rfl) (by rfl) hS ?_ ?_
          rotate_left 1
          · obtain ⟨hs1, hs2, hs3, hs4⟩ := hS; go_simp
            try with_reducible rfl
          simp only [Act.put, List.setIfInBounds_toArray, List.set_cons_zero, List.set_cons_succ]
        refine planL_last rfl (by kernel_rfl) (by decide) (by rfl) (fun K hK => ?_)
        obtain ⟨_, hs2, hs3, hs4⟩ := hS
        go_simp
        refine hK.out _ _ ?_
        clear K hK
        simp only [Act.put, List.setIfInBounds_toArray, List.set_cons_zero, List.set_cons_succ]
        refine planL_done (by kernel_rfl) (NoPanic.normal ?_)
        go_wp2
        obtain ⟨hcp1, hcp2⟩ := hcp.out
        obtain ⟨e1, e2, e3⟩ := HS.out
        obtain ⟨p1, p2, p3⟩ := PC.out
        have T2 := R2.out.1.turn (p := i * 3 + 1) (by omega) (.string (S.extract 0 (xs + mv))) (L1 ++ ⟨x.n, x.b.take (xs + mv), xs + mv⟩ :: r) (by
          have := (ptCells_set (L1 ++ ⟨x.n, x.b, xs + mv⟩ :: r) i _ hat2).1 (x.b.take (xs + mv))
          rw [show Value.string (S.extract 0 (xs + mv)) = bstr (x.b.take (xs + mv)) by rw [← e1, extract_take]; rfl, this]
          congr 1
          rw [← p1, set_mid]) (by simp)
        rw [← hcp1, show L1 ++ cutPt k0 x :: r = (L1 ++ [cutPt k0 x]) ++ r by simp] at T2
        have kp : Kp M wr (W2.setCell ⟨g, i * 3 + 1, none⟩ (.string (S.extract 0 (xs + mv)))).drew := ((KW1.out.drew.trans R2.out.2 (fun _ _ h => h)).trans T2.2 (fun _ _ h => h)).drew
        refine ⟨⟨i + 1, k2, L1 ++ [cutPt k0 x], r, by go_num, rfl, by omega, by omega, ⟨T2.1.drew.ref⟩, ⟨KD.out.trans kp (fun _ _ h => h)⟩, ⟨by simp [p1], by rw [p2]; simp, ?_⟩, ⟨fun y hy => BD.out y (List.mem_cons.2 (.inr hy))⟩⟩, by simp [intOf]; omega⟩
        rw [← p3, List.append_assoc]
        have e4 := K0.out
        subst e4
        rw [pCrash, hcp2]
        rfl
      · obtain ⟨p1, p2, p3⟩ := PC.out
        obtain ⟨A2, cc2, c1, c2, fz, _⟩ := R.out.cells
        rw [← p2] at c1
        have fz2 := fz 2
        have e0 : L2 = [] := by
          apply List.eq_nil_of_length_eq_zero
          rw [List.length_append] at p2
          omega
        clear fz p1 p2
        go_wp2
        go_end0
        subst e0
        obtain ⟨r1, r2⟩ := R.out.downs true
        refine ⟨rfl, ?_, KD.out.trans r2 (fun k _ hk => hk ▸ hm.out)⟩
        rw [show Z = L1 ++ [] from p3.symm]
        exact r1
end Go.Proofs.Ytnonbimelkagpaa
