/- errors.Is at a *api.Spot, and what nogginlaw00.Is answers there. -/
import Derived.Test.YtadiedcnkookhaaDoorErr
import Derived.Handy
import Derived.LaidEqlPtr
namespace Go.Proofs.YtadiedcnkookhaaDoor
set_option linter.unusedVariables false
set_option linter.unusedSimpArgs false
open Go.RowKit Go.Extern.Stop Go.Stop Go.Extern

theorem ei_typeOf (v : Value) (w : World) : (ReflectliteType.typeOf #[.iface 49 v]).run Tryd.prog w = .ok (.iface 136 (.agg #[.pointer (some ⟨7, 49, none⟩)])) w := by kernel_rfl
theorem ei_method (h : Value) (w : World) : (Go.method 327 136 (.agg #[h]) "Comparable").run Tryd.prog w = .ok (171, .agg #[h]) w := by kernel_rfl
theorem ei_comparable (w : World) : (ReflectliteType.method (fun t => do Rtype.noPackHeld "Comparable" t; (fun a => Value.bool a.comparable) <$> typeInfo t) #[.agg #[.pointer (some ⟨7, 49, none⟩)]]).run Tryd.prog w = .ok (.bool true) w := by kernel_rfl
theorem ei_unwrap (b : Addr) (w : World) : (Go.method 327 83 (.pointer (some b)) "Unwrap").run Tryd.prog w = .ok (164, .pointer (some b)) w := by kernel_rfl

set_option maxHeartbeats 4000000 in
set_option maxRecDepth 100000 in
theorem unwrap_any (b : Nat) (q c : Int) (w : World) (hb : w.heap[b]? = some (.cells #[.int .i64 q, .int .i64 c] 85 (0, 0))) :
    Calls Tryd.prog 164 #[.pointer (some ⟨b, 0, none⟩)] w fun e w' => e = .returned (.iface 49 (.int .i64 c)) ∧ w' = w := by
  obtain ⟨c0, c1, fz⟩ := blk2 hb
  clear hb
  go_enter Tryd.func164, Tryd.ntmps164
  go_wp2
  go_ret
  exact ⟨rfl, rfl⟩

theorem ei_noIs (v : Value) (w : World) : (Instr.typeAssert (.iface 83 v) 45 147 true).run Tryd.prog w = .ok (.tuple #[.nilIface, .bool false]) w :=
  run_typeAssert_lacksB Tryd.underlying147 (by kernel_rfl) (by kernel_rfl) v 45 w
theorem ei_hasUnwrap (v : Value) (w : World) : (Instr.typeAssert (.iface 83 v) 45 143 true).run Tryd.prog w = .ok (.tuple #[.iface 83 v, .bool true]) w :=
  run_typeAssert_hasB Tryd.underlying143 (by kernel_rfl) v 45 w
theorem ei_differ (x y : Value) (w : World) : (binOp .eql 45 (.iface 83 x) (.iface 49 y)).run Tryd.prog w = .ok (.bool false) w :=
  run_eql_iface_types 83 49 x y Tryd.underlying45 (by decide) w
theorem run_neq_iface_ptr_same {P : Program} (w : World) {ti tp te : TypeId} {ms : Array (String × TypeId)} (a : Addr) (hi : P.underlying ti = some (.interface ms)) (hp : P.underlying tp = some (.pointer te))
    (hc : (P.info? tp).map (·.comparable) = some true) (ht : (P.info? te).map (fun _ => ()) = some ()) :
    (binOp .neq ti (.iface tp (.pointer (some a))) (.iface tp (.pointer (some a)))).run P w = .ok (.bool false) w := by
  obtain ⟨i, h1, h2⟩ := Option.map_eq_some_iff.1 hc
  obtain ⟨j, h3, _⟩ := Option.map_eq_some_iff.1 ht
  have h : ∀ d : Nat, (Op.equalIn (d + 2) ti (.iface tp (.pointer (some a))) (.iface tp (.pointer (some a)))).run P w = .ok true w := fun d => by
    simp [Op.equalIn, run_underlying hi, run_underlying hp, sizeOf, typeInfo, h1, h2, h3, run_sameAddr_same]
  simp only [binOp]
  simp [Op.equal, Op.maxDepth, h 9998]
theorem run_equalIn_iface_int' {P : Program} (w : World) (d : Nat) {ti tn : TypeId} {ms : Array (String × TypeId)} {i : TypeInfo} {k : IntKind} (a b : Int)
    (hi : P.underlying ti = some (.interface ms)) (hn : P.underlying tn = some (.int k)) (hinfo : P.info? tn = some i) (hcomp : i.comparable = true) :
    (Op.equalIn (d + 2) ti (.iface tn (.int k a)) (.iface tn (.int k b))).run P w = .ok (a == b) w := by
  simp [Op.equalIn, run_underlying hi, run_underlying hn, typeInfo, hinfo, hcomp]
theorem run_eql_code {P : Program} (w : World) {ti tn : TypeId} {ms : Array (String × TypeId)} {k : IntKind} (a b : Int)
    (hi : P.underlying ti = some (.interface ms)) (hn : P.underlying tn = some (.int k)) (hinfo : (P.info? tn).map (·.comparable) = some true) :
    (binOp .eql ti (.iface tn (.int k a)) (.iface tn (.int k b))).run P w = .ok (.bool (a == b)) w := by
  obtain ⟨i, h1, h2⟩ := Option.map_eq_some_iff.1 hinfo
  simp only [binOp]
  simp [Op.equal, Op.maxDepth, run_equalIn_iface_int' w 9998 a b hi hn h1 h2]
theorem ei_codes (a b : Int) (w : World) : (binOp .eql 45 (.iface 49 (.int .i64 a)) (.iface 49 (.int .i64 b))).run Tryd.prog w = .ok (.bool (a == b)) w :=
  run_eql_code w a b Tryd.underlying45 Tryd.underlying49 (by kernel_rfl)

set_option maxHeartbeats 4000000 in
set_option maxRecDepth 100000 in
theorem is_hit (b : Nat) (q c : Int) (w : World) (hb : w.heap[b]? = some (.cells #[.int .i64 q, .int .i64 c] 85 (0, 0))) :
    Calls Tryd.prog 78 #[.iface 83 (.pointer (some ⟨b, 0, none⟩)), .iface 49 (.int .i64 c), .bool true] w fun e w' => e = .returned (.bool true) ∧ w' = w := by
  have hu := As.mk (unwrap_any b q c w hb)
  have h1 := ei_noIs
  have h2 := ei_hasUnwrap
  have h3 := ei_differ
  have h4 := fun w => ei_codes c c w
  have h5 := ei_unwrap
  have hcc : (c == c) = true := beq_self_eq_true c
  go_enter Tryd.func78, Tryd.ntmps78
  go_wp2
  refine wp_loop_rounds 2 ?_
  rw [rounds_succ]
  go_wp2_with (go_at_call 164; go_must (refine hu.out.mono ?_; rintro e w1 ⟨rfl, rfl⟩))
  rw [rounds_succ]
  go_wp2
  go_ret
  exact ⟨rfl, rfl⟩

set_option maxHeartbeats 4000000 in
set_option maxRecDepth 100000 in
theorem Is_hit (b : Nat) (q c : Int) (w : World) (hb : w.heap[b]? = some (.cells #[.int .i64 q, .int .i64 c] 85 (0, 0))) :
    Calls Tryd.prog 52 #[.iface 83 (.pointer (some ⟨b, 0, none⟩)), .iface 49 (.int .i64 c)] w fun e w' => e = .returned (.bool true) ∧ w' = w := by
  have hu := As.mk (is_hit b q c w hb)
  clear hb
  have h77 := @run_callFunc_extern Tryd.prog 77 _ ReflectliteType.typeOf Tryd.func77 (by kernel_rfl) (by kernel_rfl) (by kernel_rfl) (by kernel_rfl)
  have h171 := @run_callFunc_extern Tryd.prog 171 _ (ReflectliteType.method (fun t => do Rtype.noPackHeld "Comparable" t; pure (.bool (← typeInfo t).comparable))) Tryd.func171 (by kernel_rfl) (by kernel_rfl) (by kernel_rfl) (by kernel_rfl)
  have h1 := ei_typeOf
  have h2 := ei_method
  have h3 := ei_comparable
  go_enter Tryd.func52, Tryd.ntmps52
  go_wp2_with (go_at_call 78; go_must (refine hu.out.mono ?_; rintro e w1 ⟨rfl, rfl⟩))
  go_ret
  exact ⟨rfl, rfl⟩

set_option maxRecDepth 100000 in
theorem As_hit (e : Addr) (t : Nat) (old : Value) (w : World) (hg : w.cell? ⟨0, 0, none⟩ = some (.iface 136 (.agg #[.pointer (some ⟨7, 45, none⟩)]))) (ht : w.heap[t]? = some (.cells #[old] 83 (0, 0))) :
    Calls Tryd.prog 51 #[.iface 83 (.pointer (some e)), .iface 87 (.pointer (some ⟨t, 0, none⟩))] w fun ev w' => ev = .returned (.bool true) ∧ w'.heap[t]? = some (.cells #[.pointer (some e)] 83 (0, 0)) ∧ Kp (Is t) w w' := by
  obtain ⟨c0, fz⟩ := blk1 ht
  refine (as_hit e ⟨t, 0, none⟩ old w hg c0 (fz 0)).mono ?_
  rintro ev w' ⟨he, rfl⟩
  refine ⟨he, ?_, ?_⟩
  · exact blk_set (blk_alloc (blk_alloc (blk_alloc (blk_alloc ht _) _) _) _) 0 _
  · exact (((((Kp.refl (Is t) w).alloc _).alloc _).alloc _).alloc _).set 0 _

set_option maxHeartbeats 4000000 in
set_option maxRecDepth 100000 in
/-- nogginlaw00.Is at a Spot of that place and number: true; below the call's own memory nothing turns. -/
theorem law00_Is (b : Nat) (q c : Int) (w : World) (hb : w.heap[b]? = some (.cells #[.int .i64 q, .int .i64 c] 85 (0, 0)))
    (hg : w.cell? ⟨0, 0, none⟩ = some (.iface 136 (.agg #[.pointer (some ⟨7, 45, none⟩)]))) :
    Calls Tryd.prog 28 #[.iface 83 (.pointer (some ⟨b, 0, none⟩)), .int .i64 q, .int .i64 c] w fun e w' => e = .returned (.bool true) ∧ Kp No w w' := by
  have hlt := blk_lt hb
  have B := As.mk hb
  have G := As.mk hg
  clear hb hg
  have heq : ∀ w : World, (binOp .neq 45 (.iface 83 (.pointer (some ⟨b, 0, none⟩))) (.iface 83 (.pointer (some ⟨b, 0, none⟩)))).run Tryd.prog w = .ok (.bool false) w := fun w => run_neq_iface_ptr_same w ⟨b, 0, none⟩ Tryd.underlying45 Tryd.underlying83 (by kernel_rfl) (by kernel_rfl)
  go_enter Tryd.func28, Tryd.ntmps28
  go_wp2_with (first
    | (go_at_call 51; go_must (
        refine (As_hit ⟨b, 0, none⟩ w.heap.size (.pointer none) _ ?zg ?zt).mono ?_
        case zg => exact (((Kp.refl No w).alloc _).cell G.out id)
        case zt => exact blk_new _ _ _
        rintro e w1 ⟨rfl, h1, k1⟩
        have K1 := As.mk (((Kp.refl No w).alloc _).trans k1 (fun k hk hs => absurd hs (Nat.ne_of_lt hk)))
        have B1 := As.mk (K1.out.heap B.out id)
        have T1 := As.mk h1
        obtain ⟨d0, dz⟩ := blk1 h1
        obtain ⟨e0, e1, ez⟩ := blk2 B1.out
        clear h1 k1))
    | (go_at_call 52; go_must (refine (Is_hit b q c _ B1.out).mono ?_; rintro e w2 ⟨rfl, rfl⟩)))
  go_ret
  exact ⟨rfl, K1.out⟩
end Go.Proofs.YtadiedcnkookhaaDoor
