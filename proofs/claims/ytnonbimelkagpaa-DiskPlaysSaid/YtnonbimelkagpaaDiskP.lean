/- The disk's Parts: its parts' numbers, rising. -/
import Derived.Test.YtnonbimelkagpaaDiskA
import Derived.Shelf.SlIterI.Nil
import Derived.Shelf.SortM.Plain
import Derived.Shelf.SortM.SortNone
import Derived.Ground.GgzProg
import Derived.Ground.SlgmProg
import Derived.OwnWalkIn
namespace Go.Proofs
open Go.RowKit Go.Maps Go.Sort Go.Shelf

shelf_lay_g SlLaysZI.n7 Ggz 7 at Try 38 as Try.dkeys
shelf_lay_g SlLaysZI.n6 Ggz 6 at Try 37 as Try.dsorted
shelf_lay_g SlLaysM.n5 Slgm 5 at Try 43 as Try.dsort

theorem Try.dsorts (m : Nat) : AnyZI.SortsIn Try.prog Try.dsorted_ren Fence.wide m :=
  ⟨fun blk off cap ss W hH hblk hsz => callsIn_wide.2 (AnyM.slices_Sort_int Try.dsort blk off cap ss W hH hblk hsz),
   fun p cap W => callsIn_wide.2 (AnyM.slices_Sort_int_none Try.dsort p cap W)⟩

set_option maxHeartbeats 1000000 in
theorem Try.sortedKeys {H : Type} (b nn : Nat) (D0 : DataW H) (R : Value → Option (DataW H × List MemPlace)) (w : World) (hown : w.ownsMap Try.prog 3 R b nn D0) (hmax : Maps.size D0 ≤ maxLen) (hbytes : Maps.size D0 * 8 ≤ 140737488355328) :
    CallsIn Fence.wide 5 Try.prog 37 #[.func (.func 44) #[] #[.pointer (some ⟨w.heap.size, 0, none⟩)]] (w.alloc (.cells #[.map (some b)] 63)) fun e w' => ∃ (v : Value) (ss : List Int), e = .returned v ∧ ss.Perm (intKeys D0) ∧
      w'.ownsRow (w.alloc (.cells #[.map (some b)] 63)).heap.size 3 1 v ss.length ((ss.mergeSort (fun x y => decide (x ≤ y))).map encZ) ∧ (v = .slice none 0 0 ↔ ss = []) ∧ Below (w.alloc (.cells #[.map (some b)] 63)).heap.size (w.alloc (.cells #[.map (some b)] 63)) w' := by
  have hbl := hown.lt
  have hseq : SeqGives Fence.wide 2 Try.prog 44 #[.pointer (some ⟨w.heap.size, 0, none⟩)] encZ (fun ss => ss.Perm (intKeys D0)) (Maps.size D0) (w.alloc (.cells #[.map (some b)] 63)) :=
    AnyZI.keys_gives (ρ := Try.dkeys_ren) { Try.dkeys with } Fence.wide _ trivial rfl (by omega) w.heap.size b nn D0 _ (by simp) (by simp) (by
      obtain ⟨es, clock, hb, Ft, hs, hD⟩ := hown
      exact ⟨es, clock, (Below.heap_alloc _ _ b hbl).trans hb, Ft, hs, hD⟩)
  exact AnyZI.sorted_in Try.dsorted Fence.wide 5 trivial trivial trivial trivial rfl (by omega) (Try.dsorts _) (enters_of Try.func43 (by kernel_rfl) rfl) 44 #[.pointer (some ⟨w.heap.size, 0, none⟩)] trivial (enters_of Try.func44 (by kernel_rfl) rfl) _ _ hmax hbytes _ hseq
end Go.Proofs
namespace Go.Proofs.Ytnonbimelkagpaa
set_option linter.unusedVariables false
set_option linter.unusedSimpArgs false
open Go.RowKit Go.Lib Go.Maps Go.Sort Go.Shelf

theorem keys_ents (l : List (Int × Nat)) : intKeys (.map (ents l)) = l.map (·.1) := by
  simp [intKeys, ents, List.map_map, Function.comp_def, Go.intOf]
theorem sorted_keys {l : List (Int × Nat)} (h : l.Pairwise (fun p q => p.1 < q.1)) {ss : List Int} (hp : ss.Perm (l.map (·.1))) : ss.mergeSort (fun x y => decide (x ≤ y)) = l.map (·.1) := by
  have hs : (l.map (·.1)).Pairwise (fun x y => x ≤ y) := List.pairwise_map.2 (h.imp fun hlt => by omega)
  have h1 : (ss.mergeSort (fun x y => decide (x ≤ y))).Pairwise (fun x y => x ≤ y) := by
    have := List.pairwise_mergeSort (le := fun x y : Int => decide (x ≤ y)) (fun a b c => by simp; omega) (fun a b => by simp; omega) ss
    simpa using this
  exact List.Perm.eq_of_pairwise (fun a b _ _ h1 h2 => by omega) h1 hs ((List.mergeSort_perm _ _).trans hp)

set_option maxHeartbeats 1000000 in
theorem parts_any (w : World) (d : Nat) (D : Nat → Prop) (room : Int) (down : Bool) (E : List Ent) (h : IsDisk w d D room down E) (hE : E.length ≤ 1000000000) :
    Calls Try.prog 25 #[.pointer (some ⟨d, 0, none⟩)] w fun e w' => ∃ v, e = .returned v ∧ Own w' (New w) 3 1 v E.length (E.map fun x => .int .i64 x.n) ∧ Kp No w w' := by
  obtain ⟨mb, h1, h2, h3, hlt, h4, h5, hr⟩ := h
  obtain ⟨c0, c1, c2, fz⟩ := blk3 h1
  have hM := As.mk h4
  clear h4 h5 hr hlt h2 h3 h1
  refine (callsIn_wide (n := 6)).1 ?_
  have hfK : Fence.wide.fn 38 := trivial
  have hfS : Fence.wide.fn 37 := trivial
  refine callsIn_of_wp Try.func25 rfl trivial ?_ rfl
  simp only [Try.ntmps25, List.size_toArray, List.length_cons, List.length_nil, Nat.reduceAdd, Nat.reduceSub, Array.replicate_succ, Array.replicate_zero, List.push_toArray, List.append_toArray, List.nil_append, List.cons_append]
  gi_wp2_with (first
    | (gi_at_call 38; refine (AnyZI.keys_in Try.dkeys Fence.wide 5 trivial rfl _ _).mono ?_; rintro e w' ⟨rfl, rfl⟩)
    | (gi_at_call 37; refine (Try.sortedKeys mb _ _ _ w hM.out.2.2 (by unfold maxLen; simp [Maps.size, ents, kbs]; omega) (by simp [Maps.size, ents, kbs]; omega)).mono ?_; rintro e w' ⟨v, ss, rfl, hS, hrow, hnil, hb⟩))
  go_ret
  rw [keys_ents] at hS
  rw [sorted_keys hM.out.1 hS] at hrow
  have hl : ss.length = E.length := by rw [hS.length_eq]; simp [kbs]
  rw [hl] at hrow
  have hB : Below w.heap.size w w' := ((Below.refl _ w).alloc (Nat.le_refl _) _).trans (hb.mono (by simp))
  refine ⟨v, rfl, ?_, Kp.of_below hB⟩
  have := Own.of_base hrow
  have h2 := this.mono (G := New w) (fun k _ hk => by unfold New; simp at hk; omega)
  rw [List.map_map] at h2
  simpa [kbs, Function.comp_def, encZ] using h2
end Go.Proofs.Ytnonbimelkagpaa
