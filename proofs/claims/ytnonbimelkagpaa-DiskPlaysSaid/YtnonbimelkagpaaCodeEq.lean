/- Two errors that are Codes, compared. -/
import Derived.Test.YtnonbimelkagpaaProg
import Derived.Test.YtnonbimelkagpaaKit
import Derived.LaidEql
namespace Go.Proofs.Ytnonbimelkagpaa
set_option linter.unusedVariables false
set_option linter.unusedSimpArgs false
open Go.RowKit Go.Lib
theorem run_codesIn {P : Program} (w : World) (d : Nat) {ti tn : TypeId} {ms : Array (String × TypeId)} {i : TypeInfo} {k : IntKind} (a b : Int)
    (hi : P.underlying ti = some (.interface ms)) (hn : P.underlying tn = some (.int k)) (hinfo : P.info? tn = some i) (hcomp : i.comparable = true) :
    (Op.equalIn (d + 2) ti (.iface tn (.int k a)) (.iface tn (.int k b))).run P w = .ok (a == b) w := by
  simp [Op.equalIn, run_underlying hi, run_underlying hn, typeInfo, hinfo, hcomp]
theorem run_codes {P : Program} (w : World) {ti tn : TypeId} {ms : Array (String × TypeId)} {k : IntKind} (a b : Int)
    (hi : P.underlying ti = some (.interface ms)) (hn : P.underlying tn = some (.int k)) (hinfo : (P.info? tn).map (·.comparable) = some true) :
    (binOp .eql ti (.iface tn (.int k a)) (.iface tn (.int k b))).run P w = .ok (.bool (a == b)) w := by
  obtain ⟨i, h1, h2⟩ := Option.map_eq_some_iff.1 hinfo
  simp only [binOp]
  simp [Op.equal, Op.maxDepth, run_codesIn w 9998 a b hi hn h1 h2]
theorem run_codes_ne {P : Program} (w : World) {ti tn : TypeId} {ms : Array (String × TypeId)} {k : IntKind} (a b : Int)
    (hi : P.underlying ti = some (.interface ms)) (hn : P.underlying tn = some (.int k)) (hinfo : (P.info? tn).map (·.comparable) = some true) :
    (binOp .neq ti (.iface tn (.int k a)) (.iface tn (.int k b))).run P w = .ok (.bool (!(a == b))) w := by
  obtain ⟨i, h1, h2⟩ := Option.map_eq_some_iff.1 hinfo
  simp only [binOp]
  simp [Op.equal, Op.maxDepth, run_codesIn w 9998 a b hi hn h1 h2]
theorem codes_eq (a b : Int) (w : World) : (binOp .eql 26 (.iface 36 (.int .i64 a)) (.iface 36 (.int .i64 b))).run Try.prog w = .ok (.bool (a == b)) w :=
  run_codes w a b Try.underlying26 Try.underlying36 (by kernel_rfl)
theorem codes_ne (a b : Int) (w : World) : (binOp .neq 26 (.iface 36 (.int .i64 a)) (.iface 36 (.int .i64 b))).run Try.prog w = .ok (.bool (!(a == b))) w :=
  run_codes_ne w a b Try.underlying26 Try.underlying36 (by kernel_rfl)
end Go.Proofs.Ytnonbimelkagpaa
