/- journal: Open. -/
import Derived.Test.YtnonbimelkagpaaJourH
namespace Go.Proofs.Ytnonbimelkagpaa
set_option linter.unusedVariables false
set_option linter.unusedSimpArgs false
open Go.RowKit Go.Lib

theorem open_nil (w : World) (many : Int) : Calls Try.prog 27 #[.pointer none, .int .i64 many] w fun e w' => e = .returned (.tuple #[.pointer none, .iface 36 (.int .i64 1)]) ∧ w' = w := by
  go_enter Try.func27, Try.ntmps27
  go_wp2
  go_ret2
  exact ⟨rfl, rfl⟩
theorem open_bad (w : World) (d : Nat) (many : Int) (h : many < 1 ∨ 100 < many) : Calls Try.prog 27 #[.pointer (some ⟨d, 0, none⟩), .int .i64 many] w fun e w' => e = .returned (.tuple #[.pointer none, .iface 36 (.int .i64 1)]) ∧ w' = w := by
  by_cases h1 : many < 1
  · clear h
    go_enter Try.func27, Try.ntmps27
    go_wp2
    go_ret2
    exact ⟨rfl, rfl⟩
  · have h2 : 100 < many := by omega
    clear h
    go_enter Try.func27, Try.ntmps27
    go_wp2
    go_ret2
    exact ⟨rfl, rfl⟩

set_option maxHeartbeats 2000000 in
set_option maxRecDepth 100000 in
theorem open_ok (w : World) (d : Nat) (D : Nat → Prop) (room : Int) (down : Bool) (L : List Pt) (many : Int) (h : Disk w d D room down L) (hL : L.length ≤ 100000) (hLn : ∀ x ∈ L, -1000000000000 ≤ x.n ∧ x.n ≤ 1000000000000) (hm0 : 1 ≤ many) (hm1 : many ≤ 100) :
    Calls Try.prog 27 #[.pointer (some ⟨d, 0, none⟩), .int .i64 many] w fun e w' => ∃ j J' D', e = .returned (.tuple #[.pointer (some ⟨j, 0, none⟩), .nilIface]) ∧ Jr w' j J' d D' room false (loadGo L true [] []).1 many (loadGo L true [] []).2.1 (loadGo L true [] []).2.2 ∧ (∀ k, J' k → w.heap.size ≤ k ∧ k < w'.heap.size) ∧ (∀ k, D' k → Gr D w w' k) ∧ Kp D w w' := by
  have H := As.mk h
  have HLn := As.mk hLn
  obtain ⟨X1, hX1⟩ : ∃ X, X = (loadGo L true [] []).1 := ⟨_, rfl⟩
  obtain ⟨X2, hX2⟩ : ∃ X, X = (loadGo L true [] []).2.1 := ⟨_, rfl⟩
  obtain ⟨X3, hX3⟩ : ∃ X, X = (loadGo L true [] []).2.2 := ⟨_, rfl⟩
  rw [← hX1, ← hX2, ← hX3]
  have LD := As.mk (fun (w' : World) (j : Nat) (J D : Nat → Prop) (hj : Jr w' j J d D room false L many [] []) => by
    have := load_any w' j J d D room L many hj hL hLn
    rw [← hX1, ← hX2, ← hX3] at this
    exact this)
  have hdl := h.lt _ h.own
  clear h hLn hX1 hX2 hX3
  go_enter Try.func27, Try.ntmps27
  go_wp2_with (go_at_call 11; go_must (
    refine (disk_up w d D room down L H.out).mono ?_
    rintro e w1 ⟨rfl, h1, k1⟩
    have D1 := As.mk h1
    have K1 := As.mk k1
    clear h1 k1))
  have J2 := As.mk (show Jr (w1.alloc (.cells #[.pointer (some ⟨d, 0, none⟩), .int .i64 many, .slice none 0 0, .slice none 0 0] 80)) w1.heap.size (fun k => k = w1.heap.size) d (Gr D w w1) room false L many [] [] from
    ⟨.slice none 0 0, .slice none 0 0, blk_new _ _ _, rfl, (fun k hk => by simp; omega), Own.nil _ _ _ _, Recs.nil _ _, D1.out.keep ((Kp.refl _ _).alloc _), (fun k hk e => by have := D1.out.lt k hk; omega)⟩)
  go_wp2_with (go_at_call 39; go_must (
    refine (LD.out _ _ _ _ J2.out).mono ?_
    rintro e w2 ⟨rfl, hj, hk⟩
    have JJ := As.mk hj
    have KK := As.mk hk
    clear hj hk))
  go_ret2
  obtain ⟨J', D', g1, g2, g3⟩ := JJ.out
  have s1 := K1.out.size
  have hal : (w1.alloc (.cells #[.pointer (some ⟨d, 0, none⟩), .int .i64 many, .slice none 0 0, .slice none 0 0] 80)).heap.size = w1.heap.size + 1 := by simp
  have s2 := KK.out.size
  refine ⟨_, J', D', rfl, g1, fun k hk => ?_, fun k hk => ?_, ?_⟩
  · rcases g2 k hk with h | h
    · have h' : k = w1.heap.size := h; omega
    · have := h.1; have := h.2; omega
  · rcases g3 k hk with (h | h) | h
    · exact .inl h
    · exact .inr ⟨h.1, by omega⟩
    · exact .inr ⟨by have := h.1; omega, h.2⟩
  · refine ((K1.out.alloc _).trans KK.out (fun k hlt hk => ?_))
    rcases hk with (h | h) | h
    · exact h
    · omega
    · have h' : k = w1.heap.size := h; omega
end Go.Proofs.Ytnonbimelkagpaa
