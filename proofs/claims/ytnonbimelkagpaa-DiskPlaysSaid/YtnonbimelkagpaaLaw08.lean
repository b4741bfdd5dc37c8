/- The head of the statements of layer 8: true. -/
import Derived.Test.YtnonbimelkagpaaDiskG
import Derived.Test.YtnonbimelkagpaaCodeEq
import Derived.Lib.SlBytesConst
namespace Go.Proofs.Ytnonbimelkagpaa
set_option linter.unusedVariables false
set_option linter.unusedSimpArgs false
open Go.RowKit Go.Lib

/-- What lies from w0's end on, and is there. -/
def Bd (w0 w : World) : Nat → Prop := fun k => w0.heap.size ≤ k ∧ k < w.heap.size
theorem Disk.bd {w0 w w' : World} {d : Nat} {room : Int} {down : Bool} {L : List Pt} (h : Disk w' d (Gr (Bd w0 w) w w') room down L) (hs : w0.heap.size ≤ w.heap.size) : Disk w' d (Bd w0 w') room down L :=
  h.mono (fun k hk => ⟨by rcases hk with hk | hk; exact hk.1; exact Nat.le_trans hs hk.1, h.lt k hk⟩) (fun k hk => hk.2)
theorem Disk.bd_keep {w0 w w' : World} {d : Nat} {room : Int} {down : Bool} {L : List Pt} (h : Disk w d (Bd w0 w) room down L) (hk : Kp No w w') : Disk w' d (Bd w0 w') room down L :=
  (h.keep hk).mono (fun k hk' => ⟨hk'.1, Nat.lt_of_lt_of_le hk'.2 hk.size⟩) (fun k hk => hk.2)
theorem Kp.bd {w0 w w' : World} (h : Kp No w0 w) (hk : Kp (Bd w0 w) w w') : Kp No w0 w' := h.trans hk (fun k hlt hs => absurd hs.1 (by omega))
/-- A conversion to a string, here and as long as nothing of it turns. -/
theorem conv8 {w : World} {F : Nat → Prop} {A : Option Addr} {c : Nat} {l : List UInt8} (hr : Rd w F A (u8s l)) : (convert 22 9 (.slice A l.length c)).run Try.prog w = .ok (.string ⟨l.toArray⟩) w :=
  run_conv_str (P := Try.prog) w 22 9 5 Try.underlying22 Try.underlying5 Try.underlying9 l.length c l rfl hr
theorem Rd.lit (w : World) (l : List UInt8) (t : TypeId) (fr : Nat × Nat) : Rd (w.alloc (.cells (u8s l).toArray t fr)) (fun k => k = w.heap.size) (some ⟨w.heap.size, 0, none⟩) (u8s l) := by
  refine fun _ => ⟨_, rfl, rfl, fun j u hu => ?_⟩
  rw [add_plain', Nat.zero_add, cell_of_row _ _ _ _ _ _ (heap_alloc_new w _)]
  simpa using hu

theorem append_at (V : Value) (L' : List Pt) (w : World) (d : Nat) (D : Nat → Prop) (room : Int) (down : Bool) (L : List Pt) (h : Disk w d D room down L) (hL : L.length < 1000000000) (n : Int) (hn : -9223372036854775808 ≤ n ∧ n ≤ 9223372036854775807) (F : Nat → Prop) (A : Option Addr) (k c : Nat) (b : List UInt8) (hr : Rd w F A (u8s b)) (hbl : b.length = k) (hk : k ≤ 1000000000)
    (hV : errV (appCode down room L n k) = V) (hL' : (if appCode down room L n k = 0 then pAppend n b L else L) = L') :
    Calls Try.prog 8 #[.pointer (some ⟨d, 0, none⟩), .int .i64 n, .slice A k c] w fun e w' => e = .returned V ∧ Disk w' d (Gr D w w') room down L' ∧ Kp D w w' := by
  subst hV; subst hL'
  exact disk_append w d D room down L h hL n hn F A k c b hr hbl hk
theorem sync_at (V : Value) (L' : List Pt) (w : World) (d : Nat) (D : Nat → Prop) (room : Int) (down : Bool) (L : List Pt) (h : Disk w d D room down L) (n : Int) (hn : -9223372036854775808 ≤ n ∧ n ≤ 9223372036854775807)
    (hV : errV (partCode down L n) = V) (hL' : (if partCode down L n = 0 then pSync n L else L) = L') :
    Calls Try.prog 9 #[.pointer (some ⟨d, 0, none⟩), .int .i64 n] w fun e w' => e = .returned V ∧ Disk w' d (Gr D w w') room down L' ∧ Kp D w w' := by
  subst hV; subst hL'
  exact disk_sync w d D room down L h n hn
theorem read_at (V : Value) (l : List UInt8) (w : World) (d : Nat) (D : Nat → Prop) (room : Int) (down : Bool) (L : List Pt) (h : Disk w d D room down L) (n : Int) (hn : -9223372036854775808 ≤ n ∧ n ≤ 9223372036854775807)
    (hV : errV (partCode down L n) = V) (hl : (if partCode down L n = 0 then pBytes L n else []) = l) :
    Calls Try.prog 12 #[.pointer (some ⟨d, 0, none⟩), .int .i64 n] w fun e w' => ∃ A c, e = .returned (.tuple #[.slice A l.length c, V]) ∧ l.length ≤ c ∧ c ≤ maxLen ∧ Rd w' (fun k => New w k ∧ k < w'.heap.size) A (u8s l) ∧ Kp No w w' := by
  subst hV; subst hl
  refine (disk_read w d D room down L h n hn).mono ?_
  rintro e w' ⟨v, l, rfl, rfl, ho, hk⟩
  obtain ⟨A, c, rfl, h1, h2, h3⟩ := ho.read
  exact ⟨A, c, rfl, h1, h2, h3, hk⟩
theorem crash_at (L' : List Pt) (w : World) (d : Nat) (D : Nat → Prop) (room : Int) (down : Bool) (L : List Pt) (h : Disk w d D room down L) (hL : L.length < 1000000000) (keep : Int) (hk0 : -9223372036854775808 ≤ keep) (hk1 : keep ≤ 9223372036854775807)
    (hL' : (if down then L else pCrash keep.toNat L) = L') :
    Calls Try.prog 10 #[.pointer (some ⟨d, 0, none⟩), .int .i64 keep] w fun e w' => e = .returned (.tuple #[]) ∧ Disk w' d (Gr D w w') room true L' ∧ Kp D w w' := by
  subst hL'
  exact disk_crash w d D room down L h hL keep hk0 hk1

set_option maxHeartbeats 4000000 in
set_option maxRecDepth 100000 in
theorem up08 (w : World) : Calls Try.prog 6 #[] w fun e w' => e = .returned (.bool true) ∧ Kp No w w' := by
  have ce1 := codes_eq 1 1
  have ce2 := codes_eq 10 10
  have T1 := As.mk trivial
  have T2 := As.mk trivial
  have T3 := As.mk trivial
  have kc := fun (w : World) (C : Array Value) (n c : Nat) => Lib.run_convert_bytes_const (P := Try.prog) w 22 5 C n c Try.underlying22 Try.underlying5
  go_enter Try.func6, Try.ntmps6
  go_wp2_with (first
    | (go_at_call 7; have _t := T1; go_must (
        refine (disk_new 10 _ (by decide) (by decide)).mono ?_
        rintro e w1 ⟨d, rfl, hd, h1, k1⟩
        have D1 := As.mk h1
        have K1 := As.mk k1
        clear h1 k1 T1))
    | (go_at_call 7; go_must (
        refine (diskNew_bad 0 _ (.inl (by decide))).mono ?_
        unfold code
        rintro e w2 ⟨rfl, rfl⟩)))
  go_wp2_with (first
    | (go_at_call 8; have _t := T2; go_must (
        refine (append_at .nilIface [⟨0, [97, 98], 0⟩] (w2.alloc _) d _ 10 false [] (D1.out.bd_keep ((Kp.refl _ _).alloc _)) (by decide) 0 (by decide) _ _ 2 2 [97, 98] (Rd.lit w2 [97, 98] 5 (2, 3)) rfl (by decide) rfl rfl).mono ?_
        rintro e w3 ⟨rfl, h3, k3⟩
        have D3 := As.mk (h3.bd (K1.out.alloc _).size)
        have K3 := As.mk ((K1.out.alloc _).bd k3)
        clear h3 k3 T2 D1 K1))
    | (go_at_call 9; go_must (
        refine (sync_at .nilIface [⟨0, [97, 98], 2⟩] w3 d _ 10 false _ D3.out 0 (by decide) rfl rfl).mono ?_
        rintro e w4 ⟨rfl, h4, k4⟩
        have D4 := As.mk (h4.bd K3.out.size)
        have K4 := As.mk (K3.out.bd k4)
        clear h4 k4 D3 K3))
    | (go_at_call 8; have _t := T3; go_must (
        refine (append_at .nilIface [⟨0, [97, 98, 99, 100], 2⟩] (w4.alloc _) d _ 10 false _ (D4.out.bd_keep ((Kp.refl _ _).alloc _)) (by decide) 0 (by decide) _ _ 2 2 [99, 100] (Rd.lit w4 [99, 100] 5 (2, 3)) rfl (by decide) rfl rfl).mono ?_
        rintro e w5 ⟨rfl, h5, k5⟩
        have D5 := As.mk (h5.bd (K4.out.alloc _).size)
        have K5 := As.mk ((K4.out.alloc _).bd k5)
        clear h5 k5 T3 D4 K4))
    | (go_at_call 10; go_must (
        refine (crash_at [⟨0, [97, 98, 99], 3⟩] w5 d _ 10 false _ D5.out (by decide) 1 (by decide) (by decide) rfl).mono ?_
        rintro e w6 ⟨rfl, h6, k6⟩
        have D6 := As.mk (h6.bd K5.out.size)
        have K6 := As.mk (K5.out.bd k6)
        clear h6 k6 D5 K5))
    | (go_at_call 8; go_must (
        refine (append_at (.iface 36 (.int .i64 10)) [⟨0, [97, 98, 99], 3⟩] w6 d _ 10 true _ D6.out (by decide) 0 (by decide) (fun _ => False) none 0 0 [] (Rd.nil _ _ _) rfl (by decide) rfl rfl).mono ?_
        rintro e w7 ⟨rfl, h7, k7⟩
        have D7 := As.mk (h7.bd K6.out.size)
        have K7 := As.mk (K6.out.bd k7)
        clear h7 k7 D6 K6))
    | (go_at_call 11; go_must (
        refine (disk_up w7 d _ 10 true _ D7.out).mono ?_
        rintro e w8 ⟨rfl, h8, k8⟩
        have D8 := As.mk (h8.bd K7.out.size)
        have K8 := As.mk (K7.out.bd k8)
        clear h8 k8 D7 K7))
    | (go_at_call 12; go_must (
        refine (read_at .nilIface [97, 98, 99] w8 d _ 10 false _ D8.out 0 (by decide) rfl rfl).mono ?_
        rintro e w9 ⟨A, c, rfl, _, _, hr, k9⟩
        have hcv : (convert 22 9 (.slice A 3 c)).run Try.prog w9 = .ok (.string ⟨#[97, 98, 99]⟩) w9 := conv8 (c := c) hr
        have K9 := As.mk (K8.out.then_ k9)
        clear k9 hr D8 K8)))
  go_ret
  exact ⟨rfl, K9.out⟩
end Go.Proofs.Ytnonbimelkagpaa
