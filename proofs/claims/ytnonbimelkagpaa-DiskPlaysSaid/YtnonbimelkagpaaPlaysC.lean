/- DiskPlays, walked. -/
import Derived.Test.YtnonbimelkagpaaPlaysM
import Derived.Deep.CutBlock
import Derived.Deep.DeepCutAuto
import Derived.Deep.LoopGhost
import Derived.Deep.MidRow
namespace Go.Proofs.Ytnonbimelkagpaa
set_option linter.unusedVariables false
set_option linter.unusedSimpArgs false
open Go.RowKit Go.Lib

structure Dd where
  what : Int
  n : Int
  size : Int
  A : Option Addr
  c : Nat
  b : List UInt8
def I64 (x : Int) : Prop := -9223372036854775808 ≤ x ∧ x ≤ 9223372036854775807
def ddCells (x : Dd) : List Value := [.int .i64 x.what, .int .i64 x.n, .int .i64 x.size, .slice x.A x.b.length x.c]
def ArgDeeds (w : World) (F : Nat → Prop) (A : Option Addr) (ds : List Dd) : Prop := ds ≠ [] → ∃ g o, A = some ⟨g, o, none⟩ ∧ F g ∧ ∀ i x, ds[i]? = some x → w.rangeAt g (o + i * 4) (ddCells x) ∧ Rd w F x.A (u8s x.b) ∧ I64 x.what ∧ I64 x.n ∧ I64 x.size
theorem build8 {ops : Array Oper} {rest : List Oper} {o : Oper} {a : Act} {w : World} {Q : Exit → Act → World → Prop} (hgd : o.guard = none) (ho : o.op = .buildSlice 22 0 #[])
    (h : wpList Try.prog ops Q rest (a.put o.dst (.slice (some ⟨w.heap.size, 0, none⟩) 0 0)) (w.alloc (.cells #[] 5))) : wpList Try.prog ops Q (o :: rest) a w := by
  refine wpList_plain hgd fun K hK => ?_
  have hb0 : (Instr.buildSlice 22 0 #[]).run Try.prog w = .ok (.slice (some ⟨w.heap.size, 0, none⟩) 0 0) (w.alloc (.cells #[] 5)) := by
    simp [Instr.buildSlice, run_underlying Try.underlying22, size8, Instr.fill, newRow, show Array.range 0 = #[] from by decide]
  unfold Oper.wp execOp
  simp only [ho, Sem.run_bind, Sem.run_pure, Result.andThen_ok, List.map_toArray, List.map_nil, hb0]
  exact hK _ _ h
theorem Own.empty8 (w : World) : Own (w.alloc (.cells #[] 5)) (fun k => k = w.heap.size) 5 1 (.slice (some ⟨w.heap.size, 0, none⟩) 0 0) 0 [] :=
  ⟨⟨rfl, .inr ⟨w.heap.size, 0, #[], rfl, Nat.zero_le _, heap_alloc_new w _, Nat.le_refl _, Nat.zero_le _, rfl, rfl⟩⟩, fun k hk => by simp [Value.ownBlock] at hk; exact hk.symm⟩
theorem rangeAt_kp {S : Nat → Prop} {w w1 : World} {g o : Nat} {cs : List Value} (h : w.rangeAt g o cs) (hk : Kp S w w1) (hn : ¬ S g) : w1.rangeAt g o cs := fun j v hv => hk.cell (h j v hv) hn

set_option maxHeartbeats 1000000 in
set_option maxRecDepth 100000 in
theorem plays_room (w : World) (room : Int) (A : Option Addr) (nl cl : Nat) (h : room < 1 ∨ 65536 < room) :
    Calls Try.prog 4 #[.int .i64 room, .slice A nl cl] w fun e w' => e = .returned (.bool true) ∧ Kp No w w' := by
  have U := As.mk (up08 w)
  have NB := As.mk (fun w => (show Calls Try.prog 7 #[.int .i64 room] w fun e w' => e = .returned (.tuple #[.pointer none, .iface 36 (.int .i64 1)]) ∧ w' = w from diskNew_bad room w h))
  have hce : ∀ w, (binOp .eql 26 (.iface 36 (.int .i64 1)) (.iface 36 (.int .i64 1))).run Try.prog w = .ok (.bool true) w := fun w => by rw [codes_eq]; rfl
  by_cases h1 : room < 1
  all_goals
    first
      | (have h2 : ¬ room < 1 := h1
         have h3 : 65536 < room := by omega)
      | skip
    clear h
    go_enter Try.func4, Try.ntmps4
    go_wp2_with (first
      | (go_at_call 6; go_must (refine U.out.mono ?_; rintro e w0 ⟨rfl, hk⟩; have K0 := As.mk hk; clear hk U))
      | (go_at_call 7; go_must (
          refine (NB.out _).mono ?_
          rintro e w1 ⟨rfl, rfl⟩)))
    go_ret
    exact ⟨rfl, K0.out⟩
set_option maxHeartbeats 1000000 in
set_option maxRecDepth 100000 in
theorem plays_long (w : World) (room : Int) (A : Option Addr) (nl cl : Nat) (h0 : 1 ≤ room) (h1 : room ≤ 65536) (h : 100 < nl) :
    Calls Try.prog 4 #[.int .i64 room, .slice A nl cl] w fun e w' => e = .returned (.bool true) ∧ Kp No w w' := by
  have U := As.mk (up08 w)
  have g1 : (100 : Int) < (nl : Int) := by omega
  have g2 : ¬ room < 1 := by omega
  have g3 : ¬ 65536 < room := by omega
  go_enter Try.func4, Try.ntmps4
  go_wp2_with (first
    | (go_at_call 6; go_must (refine U.out.mono ?_; rintro e w0 ⟨rfl, hk⟩; have K0 := As.mk hk; clear hk U))
    | (go_at_call 7; go_must (
        refine (disk_new room _ h0 h1).mono ?_
        rintro e w1 ⟨d, rfl, hdd, d1, k1⟩
        have K1 := As.mk (K0.out.then_ k1)
        clear d1 k1 K0)))
  go_ret
  exact ⟨rfl, K1.out⟩
set_option maxHeartbeats 8000000 in
set_option maxRecDepth 100000 in
theorem plays_on (w : World) (room : Int) (A : Option Addr) (nl cl : Nat) (ds : List Dd) (F : Nat → Prop) (hA : ArgDeeds w F A ds) (hds : ds.length = nl) (hF : ∀ k, F k → k < w.heap.size) (h0 : 1 ≤ room) (h1 : room ≤ 65536) (h : nl ≤ 100) :
    Calls Try.prog 4 #[.int .i64 room, .slice A nl cl] w fun e w' => e = .returned (.bool true) ∧ Kp No w w' := by
  have U := As.mk (up08 w)
  have g1 : ¬ (100 : Int) < (nl : Int) := by omega
  have g2 : ¬ room < 1 := by omega
  have g3 : ¬ 65536 < room := by omega
  have HA := As.mk hA
  have HL := As.mk hds
  have HF := As.mk hF
  clear hA hds hF
  go_enter Try.func4, Try.ntmps4
  go_wp2_with (first
    | (go_at_call 6; go_must (refine U.out.mono ?_; rintro e w0 ⟨rfl, hk⟩; have K0 := As.mk hk; clear hk U))
    | (go_at_call 7; go_must (
        refine (disk_new room _ h0 h1).mono ?_
        rintro e w1 ⟨d, rfl, hdd, d1, k1⟩
        have D1 := As.mk d1
        have K1 := As.mk (K0.out.then_ k1)
        have SZ := As.mk K0.out.size
        clear d1 k1 K0)))
  obtain ⟨mb, hmb⟩ : ∃ mb, mb = w1.heap.size := ⟨_, rfl⟩
  rw [← hmb]
  have P0 := As.mk (show PS No w (w1.alloc (Obj.cells #[Value.int IntKind.i64 room, Value.slice none 0 0, Value.bool false] 40)) d mb room false [] false [] by
    have hs1 : w.heap.size ≤ w1.heap.size := K1.out.size
    refine ⟨_, fun k => k = mb, D1.out.keep ((Kp.refl _ _).alloc _), ⟨.slice none 0 0, by rw [hmb]; exact blk_new _ _ _, rfl, fun k hk => by subst hk; simp; omega, Own.nil _ _ _ _⟩, fun k hk he => ?_, fun k hk => .inr ?_, (K1.out.alloc _)⟩
    · have := hk.2; have e : k = mb := he; omega
    · have := SZ.out
      rcases hk with hk | hk
      · have := hk.1; omega
      · have e : k = mb := hk; omega)
  clear hmb
  go_loopg [9] nl (fun k v9 wr => ∃ (i : Nat) (L : List Pt) (dn : Bool), v9 = .int .i64 (i : Int) ∧ i + k = nl ∧ As (PS No w wr d mb room dn L dn L) ∧ As (PI L i))
  case atStart => exact ⟨0, [], false, rfl, by omega, P0, ⟨⟨fun x hx => (by cases hx), Nat.le_refl _⟩⟩⟩
  case round =>
    obtain ⟨i, L, dn, rfl, hik, PP, PL⟩ := hrel
    have hKr : As (Kp No w wr) := ⟨by obtain ⟨_, _, _, _, _, _, k⟩ := PP.out; exact k⟩
    by_cases hlt : i < nl
    · have hltI : (i : Int) < (nl : Int) := by omega
      have hi0 : (0 : Int) ≤ (i : Int) := by omega
      obtain ⟨x, hx⟩ : ∃ x, ds[i]? = some x := ⟨_, List.getElem?_eq_getElem (by have := HL.out; omega)⟩
      obtain ⟨g, o, rfl, hFg, hcells⟩ := HA.out (by intro e; rw [e] at hx; simp at hx)
      obtain ⟨hra, hrd, hw0, hw1, hw2⟩ := hcells i x hx
      obtain ⟨xw, xn, xz, xA, xc, xb⟩ := x
      simp only [ddCells] at hra hrd hw0 hw1 hw2
      obtain ⟨lb, hlb⟩ : ∃ lb, lb = xb.length := ⟨_, rfl⟩
      rw [← hlb] at hra
      have hrk := rangeAt_kp hra hKr.out id
      have l0 : wr.cell? ⟨g, o + i * 4, none⟩ = some (.int .i64 xw) := hrk 0 _ rfl
      have l1 : wr.cell? ⟨g, o + i * 4 + 1, none⟩ = some (.int .i64 xn) := hrk 1 _ rfl
      have l2 : wr.cell? ⟨g, o + i * 4 + 2, none⟩ = some (.int .i64 xz) := hrk 2 _ rfl
      have l3 : wr.cell? ⟨g, o + i * 4 + 3, none⟩ = some (.slice xA lb xc) := hrk 3 _ rfl
      clear hrk
      have RD := As.mk (hrd.keep hKr.out)
      have HLB := As.mk hlb
      have HW := As.mk (And.intro hw0 (And.intro hw1 hw2))
      clear hcells hra hrd hw0 hw1 hw2 hx hlb hFg
      by_cases hbig : 500 < lb
      · have hbigI : (500 : Int) < (lb : Int) := by omega
        go_wp2_with fail
        go_ret
        exact ⟨rfl, hKr.out.alloc _⟩
      · have hbigI : ¬ (500 : Int) < (lb : Int) := by omega
        obtain ⟨gx, hgx⟩ : ∃ gx, gx = wr.heap.size := ⟨_, rfl⟩
        have GX := As.mk hgx
        clear hgx
        obtain ⟨k, hk⟩ : ∃ k, k = pickV xw := ⟨_, rfl⟩
        have KV := As.mk hk
        clear hk
        go_upto_block 2 with (first
          | ((with_reducible refine gate (N := 84) rfl ?_); go_must (
              have hgx := GX.out
              rw [← hgx]
              obtain ⟨wx, hwx⟩ : ∃ wx, wx = wr.alloc (.cells #[.int .i64 xw, .int .i64 xn, .int .i64 xz, .slice xA lb xc] 42) := ⟨_, rfl⟩
              have BX := As.mk (show wx.heap[gx]? = some (.cells #[.int .i64 xw, .int .i64 xn, .int .i64 xz, .slice xA lb xc] 42 (0, 0)) by rw [hwx, hgx]; exact blk_new _ _ _)
              have KX := As.mk (show Kp No wr wx by rw [hwx]; exact (Kp.refl _ _).alloc _)
              have SX := As.mk (show wx.heap.size = gx + 1 by rw [hwx, hgx]; simp)
              rw [← hwx]
              refine build8 rfl rfl ?_
              have E3 := As.mk (Own.empty8 wx)
              have K3 := As.mk ((Kp.refl No wx).alloc (.cells #[] 5))
              obtain ⟨w3, hw3⟩ : ∃ w3, w3 = wx.alloc (.cells #[] 5) := ⟨_, rfl⟩
              rw [← hw3] at E3 K3 ⊢
              obtain ⟨_, x1, x2, x3, _⟩ := blk4 (K3.out.heap BX.out id)
              clear hw3 hwx hgx))
          | ((with_reducible refine gate (N := 87) rfl ?_); go_must (
              refine app (w := w3) rfl _ _ _ rfl 5 _ 1 1 info8 Try.underlying22 rfl (by decide) (.slice (some ⟨wx.heap.size, 0, none⟩) 0 0) 0 [] rfl E3.out xA lb xc (u8s xb) rfl (F := F) ?zr ?zl ?zo ?zm ?zb ?_
              case zr => exact (RD.out.keep (KX.out.then_ K3.out))
              case zl => rw [u8s_length, HLB.out]; omega
              case zo => exact u8s_one _
              case zm => unfold maxLen; omega
              case zb => omega
              intro v4 w4 o4 g4
              rw [Nat.zero_add, List.nil_append] at o4
              have K4 := As.mk (K3.out.grown g4 (fun k hk => .inr (by simp [Value.ownBlock] at hk; omega)))
              have hs3 := K3.out.size
              have O4 := As.mk (o4.mono (G := fun k => wx.heap.size ≤ k) (fun k _ hk => by
                rcases hk with hk | hk
                · simp [Value.ownBlock] at hk; exact Nat.le_of_eq hk
                · exact Nat.le_trans hs3 hk))
              obtain ⟨Ao, co, rfl, _, _, orr⟩ := o4.read
              have OR := As.mk orr
              have KR4 := As.mk (KX.out.then_ K4.out)
              have BX4 := As.mk (K4.out.heap BX.out id)
              obtain ⟨x0, x1, x2, x3, _⟩ := blk4 BX4.out
              clear o4 g4 orr))
          | (go_at_call 13; go_must (
              refine (pick_any w4 xw HW.out.1.1 HW.out.1.2 k KV.out).mono ?_
              rintro e w4 ⟨rfl, rfl⟩)))
        have HGX := GX.out
        have LX := As.mk (PP.out.lf (by have := PL.out.2; omega))
        have P4 := As.mk (show PS (fun k => w.heap.size ≤ k ∧ k < wr.heap.size) w4 w4 d mb room dn L dn L from PP.out.rebase KR4.out)
        have XK := As.mk (show ∀ w', Kp (fun k => w.heap.size ≤ k ∧ k < wr.heap.size) w4 w' → w'.heap[gx]? = some (.cells #[.int .i64 xw, .int .i64 xn, .int .i64 xz, .slice xA lb xc] 42 (0, 0)) from fun w' hk => hk.heap BX4.out (fun hz => by have := hz.2; omega))
        have RX := As.mk (show Rd w4 F xA (u8s xb) from RD.out.keep KR4.out)
        clear HGX
        go_cut [12, 13, 14, 15, 16, 17] (fun s12 s13 _ _ _ _ wc => ∃ (c : Nat) (L' : List Pt) (dn' : Bool), s12 = .int .i64 (c : Int) ∧ s13 = errV c ∧ c ≤ 10 ∧ As (PS (fun k => w.heap.size ≤ k ∧ k < wr.heap.size) w4 wc d mb room dn' L' dn' L') ∧ As (PI L' (i + 1)))
        case first =>
          have hk8 : k = 0 ∨ k = 1 ∨ k = 2 ∨ k = 3 ∨ k = 4 ∨ k = 5 ∨ k = 6 ∨ k = 7 := by
            have := pickV_lt xw
            have := KV.out
            omega
          rcases hk8 with rfl | rfl | rfl | rfl | rfl | rfl | rfl | rfl
          · as_aux_lemma =>
              obtain ⟨c, hc⟩ : ∃ c, c = appCode dn room L xn lb := ⟨_, rfl⟩
              obtain ⟨V, hV⟩ : ∃ V, errV c = V := ⟨_, rfl⟩
              obtain ⟨L1, hL1⟩ : ∃ L1, L1 = if c = 0 then pAppend xn xb L else L := ⟨_, rfl⟩
              have CC := As.mk (And.intro hc (And.intro hV hL1))
              clear hc hV hL1
              go_wp2_with (first
                | (go_at_call 8; go_must (
                  refine (ps_append V L1 c P4.out LX.out xn HW.out.2.1 _ Ao lb co xb OR.out HLB.out.symm (by omega) CC.out.1 CC.out.2.1 CC.out.2.2).mono ?_
                  rintro e w5 ⟨rfl, pp⟩
                  have P5 := As.mk pp
                  obtain ⟨_, y1, y2, y3, _⟩ := blk4 (XK.out _ pp.kp)
                  have hconv := run_conv_str (P := Try.prog) w5 22 9 5 Try.underlying22 Try.underlying5 Try.underlying9 lb xc xb HLB.out.symm (RX.out.kp pp.kp (fun k hk hz => by have := HF.out k hk; have := hz.1; omega))
                  clear pp))
                | (go_at_call 14; go_must (
                  refine (ps_rappend L1 c P5.out LX.out xn HW.out.2.1 xb lb HLB.out.symm _ rfl CC.out.1 CC.out.2.2).mono ?_
                  rintro e w6 ⟨rfl, pp⟩
                  have P6 := As.mk pp
                  clear pp)))
              go_meet
              exact ⟨c, L1, dn, rfl, CC.out.2.1.symm, by have := CC.out.1; have := codes_le (dn := dn) LX.out xn lb xz; omega, P6, ⟨by rw [CC.out.2.2]; split; exact PL.out.append xn HW.out.2.1 xb; exact PL.out.up⟩⟩
          · as_aux_lemma =>
              obtain ⟨c, hc⟩ : ∃ c, c = appCode dn room L xn lb := ⟨_, rfl⟩
              obtain ⟨V, hV⟩ : ∃ V, errV c = V := ⟨_, rfl⟩
              obtain ⟨L1, hL1⟩ : ∃ L1, L1 = if c = 0 then pAppend xn xb L else L := ⟨_, rfl⟩
              have CC := As.mk (And.intro hc (And.intro hV hL1))
              clear hc hV hL1
              go_wp2_with (first
                | (go_at_call 8; go_must (
                  refine (ps_append V L1 c P4.out LX.out xn HW.out.2.1 _ Ao lb co xb OR.out HLB.out.symm (by omega) CC.out.1 CC.out.2.1 CC.out.2.2).mono ?_
                  rintro e w5 ⟨rfl, pp⟩
                  have P5 := As.mk pp
                  obtain ⟨_, y1, y2, y3, _⟩ := blk4 (XK.out _ pp.kp)
                  have hconv := run_conv_str (P := Try.prog) w5 22 9 5 Try.underlying22 Try.underlying5 Try.underlying9 lb xc xb HLB.out.symm (RX.out.kp pp.kp (fun k hk hz => by have := HF.out k hk; have := hz.1; omega))
                  clear pp))
                | (go_at_call 14; go_must (
                  refine (ps_rappend L1 c P5.out LX.out xn HW.out.2.1 xb lb HLB.out.symm _ rfl CC.out.1 CC.out.2.2).mono ?_
                  rintro e w6 ⟨rfl, pp⟩
                  have P6 := As.mk pp
                  clear pp)))
              go_meet
              exact ⟨c, L1, dn, rfl, CC.out.2.1.symm, by have := CC.out.1; have := codes_le (dn := dn) LX.out xn lb xz; omega, P6, ⟨by rw [CC.out.2.2]; split; exact PL.out.append xn HW.out.2.1 xb; exact PL.out.up⟩⟩
          · as_aux_lemma =>
              obtain ⟨c, hc⟩ : ∃ c, c = partCode dn L xn := ⟨_, rfl⟩
              obtain ⟨V, hV⟩ : ∃ V, errV c = V := ⟨_, rfl⟩
              obtain ⟨L1, hL1⟩ : ∃ L1, L1 = if c = 0 then pSync xn L else L := ⟨_, rfl⟩
              have CC := As.mk (And.intro hc (And.intro hV hL1))
              clear hc hV hL1
              go_wp2_with (first
                | (go_at_call 9; go_must (
                  refine (ps_sync V L1 c P4.out LX.out xn HW.out.2.1 CC.out.1 CC.out.2.1 CC.out.2.2).mono ?_
                  rintro e w5 ⟨rfl, pp⟩
                  have P5 := As.mk pp
                  obtain ⟨_, y1, y2, y3, _⟩ := blk4 (XK.out _ pp.kp)
                  clear pp))
                | (go_at_call 15; go_must (
                  refine (ps_rsync L1 c P5.out LX.out xn HW.out.2.1 CC.out.1 CC.out.2.2).mono ?_
                  rintro e w6 ⟨rfl, pp⟩
                  have P6 := As.mk pp
                  clear pp)))
              go_meet
              exact ⟨c, L1, dn, rfl, CC.out.2.1.symm, by have := CC.out.1; have := codes_le (dn := dn) LX.out xn lb xz; omega, P6, ⟨by rw [CC.out.2.2]; split; exact PL.out.sync xn; exact PL.out.up⟩⟩
          · as_aux_lemma =>
              obtain ⟨c, hc⟩ : ∃ c, c = cutCode dn L xn xz := ⟨_, rfl⟩
              obtain ⟨V, hV⟩ : ∃ V, errV c = V := ⟨_, rfl⟩
              obtain ⟨L1, hL1⟩ : ∃ L1, L1 = if c = 0 then pCut xn xz.toNat L else L := ⟨_, rfl⟩
              have CC := As.mk (And.intro hc (And.intro hV hL1))
              clear hc hV hL1
              go_wp2_with (first
                | (go_at_call 16; go_must (
                  refine (ps_cut V L1 c P4.out LX.out xn HW.out.2.1 xz CC.out.1 CC.out.2.1 CC.out.2.2).mono ?_
                  rintro e w5 ⟨rfl, pp⟩
                  have P5 := As.mk pp
                  obtain ⟨_, y1, y2, y3, _⟩ := blk4 (XK.out _ pp.kp)
                  clear pp))
                | (go_at_call 17; go_must (
                  refine (ps_rcut L1 c P5.out LX.out xn HW.out.2.1 xz CC.out.1 CC.out.2.2).mono ?_
                  rintro e w6 ⟨rfl, pp⟩
                  have P6 := As.mk pp
                  clear pp)))
              go_meet
              exact ⟨c, L1, dn, rfl, CC.out.2.1.symm, by have := CC.out.1; have := codes_le (dn := dn) LX.out xn lb xz; omega, P6, ⟨by rw [CC.out.2.2]; split; exact PL.out.cut xn xz.toNat; exact PL.out.up⟩⟩
          · as_aux_lemma =>
              obtain ⟨c, hc⟩ : ∃ c, c = partCode dn L xn := ⟨_, rfl⟩
              obtain ⟨V, hV⟩ : ∃ V, errV c = V := ⟨_, rfl⟩
              obtain ⟨L1, hL1⟩ : ∃ L1, L1 = if c = 0 then pDel xn L else L := ⟨_, rfl⟩
              have CC := As.mk (And.intro hc (And.intro hV hL1))
              clear hc hV hL1
              go_wp2_with (first
                | (go_at_call 18; go_must (
                  refine (ps_remove V L1 c P4.out LX.out xn HW.out.2.1 CC.out.1 CC.out.2.1 CC.out.2.2).mono ?_
                  rintro e w5 ⟨rfl, pp⟩
                  have P5 := As.mk pp
                  obtain ⟨_, y1, y2, y3, _⟩ := blk4 (XK.out _ pp.kp)
                  clear pp))
                | (go_at_call 19; go_must (
                  refine (ps_rremove L1 c P5.out LX.out xn HW.out.2.1 CC.out.1 CC.out.2.2).mono ?_
                  rintro e w6 ⟨rfl, pp⟩
                  have P6 := As.mk pp
                  clear pp)))
              go_meet
              exact ⟨c, L1, dn, rfl, CC.out.2.1.symm, by have := CC.out.1; have := codes_le (dn := dn) LX.out xn lb xz; omega, P6, ⟨by rw [CC.out.2.2]; split; exact PL.out.del xn; exact PL.out.up⟩⟩
          · as_aux_lemma =>
              obtain ⟨c, hc⟩ : ∃ c, c = partCode dn L xn := ⟨_, rfl⟩
              obtain ⟨V, hV⟩ : ∃ V, errV c = V := ⟨_, rfl⟩
              obtain ⟨l, hl⟩ : ∃ l, l = if c = 0 then pBytes L xn else [] := ⟨_, rfl⟩
              have CC := As.mk (And.intro hc (And.intro hV hl))
              clear hc hV hl
              go_wp2_with (first
                | (go_at_call 12; go_must (
                  refine (ps_read V c l P4.out xn HW.out.2.1 CC.out.1 CC.out.2.1 CC.out.2.2).mono ?_
                  rintro e w5 ⟨A5, c5, rfl, r5, k5⟩
                  have P5 := As.mk (P4.out.keep k5)
                  obtain ⟨_, y1, y2, y3, _⟩ := blk4 (XK.out _ (P4.out.keep k5).kp)
                  have hconv := run_conv_str (P := Try.prog) w5 22 9 5 Try.underlying22 Try.underlying5 Try.underlying9 l.length c5 l rfl r5
                  clear r5 k5))
                | (go_at_call 20; go_must (
                  refine (ps_rread c l P5.out LX.out xn CC.out.1 CC.out.2.2).mono ?_
                  rintro e w6 ⟨rfl, rfl⟩)))
              go_meet
              exact ⟨c, L, dn, rfl, CC.out.2.1.symm, by have := CC.out.1; have := codes_le (dn := dn) LX.out xn lb xz; omega, P5, ⟨PL.out.up⟩⟩
          · as_aux_lemma =>
              obtain ⟨L1, hL1⟩ : ∃ L1, L1 = if dn then L else pCrash xz.toNat L := ⟨_, rfl⟩
              have CC := As.mk hL1
              clear hL1
              go_wp2_with (first
                | (go_at_call 10; go_must (
                  refine (ps_crash L1 P4.out LX.out xz HW.out.2.2 CC.out).mono ?_
                  rintro e w5 ⟨rfl, pp⟩
                  have P5 := As.mk pp
                  obtain ⟨_, y1, y2, y3, _⟩ := blk4 (XK.out _ pp.kp)
                  clear pp))
                | (go_at_call 21; go_must (
                  refine (ps_rcrash L1 P5.out LX.out xz HW.out.2.2 CC.out).mono ?_
                  rintro e w6 ⟨rfl, pp⟩
                  have P6 := As.mk pp
                  clear pp)))
              go_meet
              exact ⟨0, L1, true, rfl, rfl, by omega, P6, ⟨by rw [CC.out]; split; exact PL.out.up; exact PL.out.crash _⟩⟩
          · as_aux_lemma =>
              go_wp2_with (first
                | (go_at_call 11; go_must (
                  refine (ps_up P4.out).mono ?_
                  rintro e w5 ⟨rfl, pp⟩
                  have P5 := As.mk pp
                  obtain ⟨_, y1, y2, y3, _⟩ := blk4 (XK.out _ pp.kp)
                  obtain ⟨_, _, _, mc2, mfz⟩ := pp.cells
                  have mf2 := mfz 2
                  clear pp mfz)))
              go_meet
              exact ⟨0, L, false, rfl, rfl, by omega, ⟨P5.out.rup⟩, ⟨PL.out.up⟩⟩
        case rest =>
          as_aux_lemma =>
            obtain ⟨c, L1, dn1, rfl, rfl, hc10, P6, PL1⟩ := hcut
            obtain ⟨V, hV⟩ : ∃ V, V = errV c := ⟨_, rfl⟩
            rw [← hV]
            have HV := As.mk hV
            clear hV
            obtain ⟨go, hgo1, hgo2, hgo3⟩ : ∃ go, (lb = 0 ∨ Ao = some ⟨go, 0, none⟩) ∧ gx ≤ go ∧ go < w4.heap.size := by
              have hs4 := K4.out.size
              have hsx := SX.out
              rcases O4.out.1.2 with ⟨_, h0⟩ | ⟨go, cap, cur, he, _, hh, _⟩
              · exact ⟨gx, .inl h0, Nat.le_refl _, by omega⟩
              · injection he with e1
                have := O4.out.2 go (by rw [e1]; rfl)
                exact ⟨go, .inr e1, by omega, blk_lt hh⟩
            have Q6 := As.mk (P6.out.pq (hKr.out.then_ KR4.out) (by have := GX.out; omega) hgo3 (go := go))
            have hgw : w.heap.size ≤ go := by have := GX.out; have := hKr.out.size; omega
            have OW := As.mk (show lb ≠ 0 → ∃ cs : List Value, Own wc (fun k => k = go) 5 1 (.slice Ao lb co) lb cs ∧ ∀ j, j < lb → ∃ n : Int, cs[j]? = some (.int .u8 n) from fun hne => by
              have e1 := hgo1.resolve_left hne
              subst e1
              refine ⟨u8s xb, (O4.out.kp P6.out.kp (fun k hk hz => by have := hz.2; have := SX.out; have := GX.out; have hk' : wx.heap.size ≤ k := hk; omega)).only.mono (fun k _ hk => by have := hk.2; simp [Value.ownBlock] at this; exact this.symm), fun j hj => ?_⟩
              have : j < xb.length := by have := HLB.out; omega
              exact ⟨_, u8s_get (List.getElem?_eq_getElem this)⟩)
            have HGO := As.mk hgo1
            clear hgo1 hgo2 hgo3
            go_wp2_with fail
            go_loopw [18] (fun vq wr2 => ∃ q : Nat, vq = .int .i64 (q : Int) ∧ q ≤ lb ∧ As (PQ go w wr2 d mb room dn1 L1) ∧ As (lb ≠ 0 → ∃ cs : List Value, Own wr2 (fun k => k = go) 5 1 (.slice Ao lb co) lb cs ∧ ∀ j, j < lb → ∃ n : Int, cs[j]? = some (.int .u8 n))) (fun vq _ => lb - (intOf vq).toNat)
            case atStart => exact ⟨0, rfl, Nat.zero_le _, Q6, OW⟩
            case round =>
              obtain ⟨q, rfl, hq, QQ, OO⟩ := hrel
              by_cases hql : q < lb
              · have e1 := HGO.out.resolve_left (by omega)
                subst e1
                obtain ⟨cs, ho, hcs⟩ := OO.out (by omega)
                obtain ⟨n1, hn1⟩ := hcs q hql
                have hcell := ho.1.cells (g := go) rfl _ _ hn1
                rw [add_plain', Nat.zero_add] at hcell
                have hfz : wr.frozen? ⟨go, q, none⟩ = false := by
                  rcases ho.1.2 with ⟨he, _⟩ | ⟨g', cap, cur, he, _, hh, _⟩
                  · injection he with e1; cases e1
                  · injection he with e1
                    injection e1 with e1
                    injection e1 with e1
                    subst e1
                    exact blk_frozen hh q
                have HO := As.mk ho
                have HCS := As.mk hcs
                have hqI : (q : Int) < (lb : Int) := by omega
                have hq0 : (0 : Int) ≤ (q : Int) := by omega
                clear ho hcs hn1
                go_wp2_with fail
                refine ⟨⟨q + 1, by go_num, by omega, ⟨QQ.out.set hgw q _⟩, ⟨fun hne => ⟨_, HO.out.set (by omega) _, fun j hj => ?_⟩⟩⟩, by simp [intOf]; omega⟩
                by_cases e : q = j
                · subst e
                  rw [List.getElem?_set_self (by have := HO.out.len; omega)]
                  exact ⟨_, rfl⟩
                · rw [List.getElem?_set_ne e]
                  exact HCS.out j hj
              · have hqI : ¬ (q : Int) < (lb : Int) := by omega
                have PF := As.mk QQ.out.ps
                have LF1 := As.mk (PF.out.lf (by have := PL1.out.2; omega))
                have hub : (pUsed L1 : Int) ≤ 65536 := by have := LF1.out.2.1; have := LF1.out.2.2.2.1; omega
                obtain ⟨nu, hnu⟩ : ∃ z, z = pUsed L1 := ⟨_, rfl⟩
                have HNU := As.mk hnu
                obtain ⟨nL, hnL⟩ : ∃ z, z = L1.length := ⟨_, rfl⟩
                have HNL := As.mk hnL
                have hnLb : nL ≤ 1000 := by have := PL1.out.2; omega
                clear hnu hnL hub
                go_wp2_with (first
                  | (go_at_call 22; go_must (
                      refine (code_any _ c hc10 V HV.out).mono ?_
                      rintro e w5 ⟨rfl, rfl⟩
                      have P5 := As.mk PF.out))
                  | (go_at_call 23; go_must (
                      refine (ps_used P5.out).mono ?_
                      rintro e w6 ⟨rfl, k6⟩
                      rw [← HNU.out]
                      have P6 := As.mk (P5.out.keep k6)
                      clear k6))
                  | (go_at_call 24; go_must (
                      refine (ps_rused P6.out LF1.out).mono ?_
                      rintro e w7 ⟨rfl, rfl⟩
                      rw [← HNU.out]
                      have P7 := As.mk P6.out))
                  | (go_at_call 25; go_must (
                      refine (ps_parts P7.out LF1.out).mono ?_
                      rintro e w8 ⟨v8, rfl, o8, k8⟩
                      obtain ⟨A8, c8, rfl, _, _, r8⟩ := o8.read
                      have P8 := As.mk (P7.out.keep k8)
                      have R8 := As.mk r8
                      have O8 := As.mk o8
                      rw [← HNL.out]
                      obtain ⟨Am, cm, mc1, _⟩ := (P7.out.keep k8).cells
                      rw [← HNL.out] at mc1
                      clear o8 k8 r8)))
                go_loopw [20] (fun vq wr3 => ∃ q2 : Nat, vq = .int .i64 (q2 : Int) ∧ q2 ≤ nL ∧ As (Kp No w8 wr3)) (fun vq _ => nL - (intOf vq).toNat)
                case atStart => exact ⟨0, rfl, Nat.zero_le _, ⟨Kp.refl _ _⟩⟩
                case round =>
                  obtain ⟨q2, rfl, hq2, K9⟩ := hrel
                  by_cases hq2l : q2 < nL
                  · obtain ⟨y, hy⟩ : ∃ y, L1[q2]? = some y := ⟨_, List.getElem?_eq_getElem (by have := HNL.out; omega)⟩
                    obtain ⟨Am2, cm2, mc2, hne2, cell2⟩ := (P8.out.keep K9.out).seen
                    obtain ⟨gm, rfl⟩ := hne2 (by intro e; rw [e] at hy; simp at hy)
                    have hcm := (cell2 gm rfl q2 y hy).1
                    obtain ⟨ad, rfl, _, hc8⟩ := (R8.out.keep K9.out).at_ (j := q2) (u := .int .i64 y.n) (by rw [List.getElem?_map, hy]; rfl)
                    obtain ⟨yn, hyn⟩ : ∃ z, z = y.n := ⟨_, rfl⟩
                    rw [← hyn] at hcm hc8
                    rw [← HNL.out] at mc2
                    have hqI2 : (q2 : Int) < (nL : Int) := by omega
                    have hqI3 : (0 : Int) ≤ (q2 : Int) := by omega
                    clear cell2 hne2 hy hyn
                    go_wp2_with fail
                    refine wp_region_plan (fun w' => w'.cell? ⟨mb, 1, none⟩ = some (.slice (some ⟨gm, 0, none⟩) nL cm2) ∧ w'.cell? ⟨gm, q2 * 3, none⟩ = some (.int .i64 yn) ∧ w'.cell? (ad.add q2) = some (.int .i64 yn)) (by kernel_rfl) ?_
                    have hS : wr.drew.cell? ⟨mb, 1, none⟩ = some (.slice (some ⟨gm, 0, none⟩) nL cm2) ∧ wr.drew.cell? ⟨gm, q2 * 3, none⟩ = some (.int .i64 yn) ∧ wr.drew.cell? (ad.add q2) = some (.int .i64 yn) := ⟨mc2, hcm, hc8⟩
                    simp only [lexOf, Nat.reduceAdd, List.size_toArray, List.length_cons, List.length_nil, Array.replicate, List.replicate]
                    iterate 13
                      refine plan_take (v := ?_) rfl (by kernel_rfl) (by rfl) hS ?_ ?_
                      rotate_left 1
                      · intro w hSw; obtain ⟨hs1, hs2, hs3⟩ := hSw; go_simp
                        try with_reducible rfl
                      simp only [Act.put, List.setIfInBounds_toArray, List.set_cons_zero, List.set_cons_succ]
                    refine plan_done (by kernel_rfl) (NoPanic.normal ?_)
                    clear hS mc2 hcm hc8
                    go_wp2_with fail
                    refine ⟨⟨q2 + 1, by go_num, by omega, ⟨K9.out.drew⟩⟩, by simp [intOf]; omega⟩
                  · have hqI2 : ¬ (q2 : Int) < (nL : Int) := by omega
                    have PZ := As.mk (P8.out.keep K9.out)
                    clear mc1
                    go_wp2_with fail
                    go_roundg (gk - 1)
                    case measure => omega
                    case rel => exact ⟨i + 1, L1, dn1, by go_num, by omega, PZ, PL1⟩
    · as_aux_lemma =>
        have hltI : ¬ (i : Int) < (nl : Int) := by omega
        have LF1 := As.mk (PP.out.lf (by have := PL.out.2; omega))
        obtain ⟨nL, hnL⟩ : ∃ z, z = L.length := ⟨_, rfl⟩
        have HNL := As.mk hnL
        have hnLb : nL ≤ 1000 := by have := PL.out.2; omega
        clear hnL
        go_wp2_with (first
          | (go_at_call 11; go_must (
              refine (ps_up PP.out).mono ?_
              rintro e w9 ⟨rfl, pp⟩
              have P9 := As.mk pp
              obtain ⟨Am, cm, mc1, _⟩ := pp.cells
              rw [← HNL.out] at mc1
              clear pp)))
        go_loopw [21] (fun vq wr3 => ∃ q : Nat, vq = .int .i64 (q : Int) ∧ q ≤ nL ∧ As (Kp No w9 wr3)) (fun vq _ => nL - (intOf vq).toNat)
        case atStart => exact ⟨0, rfl, Nat.zero_le _, ⟨Kp.refl _ _⟩⟩
        case round =>
          obtain ⟨q, rfl, hq, K9⟩ := hrel
          have PX := As.mk (P9.out.keep K9.out)
          obtain ⟨Am2, cm2, mc2, hne2, cell2⟩ := PX.out.seen
          rw [← HNL.out] at mc2
          by_cases hql : q < nL
          · obtain ⟨y, hy⟩ : ∃ y, L[q]? = some y := ⟨_, List.getElem?_eq_getElem (by have := HNL.out; omega)⟩
            obtain ⟨gm, rfl⟩ := hne2 (by intro e; rw [e] at hy; simp at hy)
            obtain ⟨hcn, hcb⟩ := cell2 gm rfl q y hy
            have hfy : pFind y.n L = some y := by
              have e := split_at hy
              conv => lhs; rw [e]
              exact pFind_mid (by rw [← e]; exact LF1.out.1)
            have HR := As.mk (show 0 = partCode false L y.n ∧ y.b = (if (0 : Nat) = 0 then pBytes L y.n else []) ∧ (-9223372036854775808 ≤ y.n ∧ y.n ≤ 9223372036854775807) from ⟨by unfold partCode; rw [hfy]; rfl, by rw [if_pos rfl, pBytes, hfy], PL.out.1 y (List.mem_of_getElem? hy)⟩)
            obtain ⟨yn, yb, ys⟩ := y
            simp only at hcn hcb HR
            unfold bstr at hcb
            obtain ⟨T, hT⟩ : ∃ T : ByteArray, T = ⟨yb.toArray⟩ := ⟨_, rfl⟩
            have HT := As.mk hT
            rw [← hT] at hcb
            have hqI2 : (q : Int) < (nL : Int) := by omega
            have hqI3 : (0 : Int) ≤ (q : Int) := by omega
            have hcb0 := As.mk hcb
            have mc20 := As.mk mc2
            clear cell2 hne2 hy hfy hT
            go_wp2_with (first
              | (go_at_call 12; go_must (
                  refine (ps_read .nilIface 0 yb PX.out yn HR.out.2.2 HR.out.1 rfl HR.out.2.1).mono ?_
                  rintro e w10 ⟨A5, c5, rfl, r5, k5⟩
                  have hconv := run_conv_str (P := Try.prog) w10.drew 22 9 5 Try.underlying22 Try.underlying5 Try.underlying9 yb.length c5 yb rfl (r5.keep (Kp.refl No w10).drew)
                  rw [← HT.out] at hconv
                  have HCV := As.mk hconv
                  have K10 := As.mk (K9.out.then_ k5)
                  have CB := As.mk (k5.cell hcb0.out id)
                  have MC := As.mk (k5.cell mc20.out id)
                  clear r5 k5 hconv)))
            refine wp_region_plan (fun w' => (convert 22 9 (.slice A5 yb.length c5)).run Try.prog w' = .ok (.string T) w' ∧ w'.cell? ⟨mb, 1, none⟩ = some (.slice (some ⟨gm, 0, none⟩) nL cm2) ∧ w'.cell? ⟨gm, q * 3 + 1, none⟩ = some (.string T)) (by kernel_rfl) ?_
            have hS : (convert 22 9 (.slice A5 yb.length c5)).run Try.prog w10.drew = .ok (.string T) w10.drew ∧ w10.drew.cell? ⟨mb, 1, none⟩ = some (.slice (some ⟨gm, 0, none⟩) nL cm2) ∧ w10.drew.cell? ⟨gm, q * 3 + 1, none⟩ = some (.string T) := ⟨HCV.out, MC.out, CB.out⟩
            simp only [lexOf, Nat.reduceAdd, List.size_toArray, List.length_cons, List.length_nil, Array.replicate, List.replicate]
            iterate 15
              refine plan_take (v := ?_) rfl (by kernel_rfl) (by rfl) hS ?_ ?_
              rotate_left 1
              · intro w hSw; obtain ⟨hs1, hs2, hs3⟩ := hSw; go_simp
                try with_reducible rfl
              simp only [Act.put, List.setIfInBounds_toArray, List.set_cons_zero, List.set_cons_succ]
            refine plan_done (by kernel_rfl) (NoPanic.normal ?_)
            clear hS
            go_wp2_with fail
            refine ⟨⟨q + 1, by go_num, by omega, ⟨K10.out.drew⟩⟩, by simp [intOf]; omega⟩
          · have hqI2 : ¬ (q : Int) < (nL : Int) := by omega
            clear cell2 hne2
            go_wp2_with fail
            go_ret
            exact ⟨rfl, PX.out.kp⟩
end Go.Proofs.Ytnonbimelkagpaa
