/- The rows' head: what the variable errors.errorType is laid as. -/
import Derived.Test.YtadiedcnkookhaaDoorCards
import Derived.Test.YtadiedcnkookhaaDoorTie
import Derived.Test.YtadiedcnkookhaaDoorWireF
import Derived.WalkKit
import Derived.ProofKit
import Derived.OpenShut
import Derived.ShutString
import Derived.Carry
import Derived.Deep.DeepHandedRow
import Derived.SevenTiedAt
import Derived.LaidLaws
import Derived.LaidHandle
import Derived.Stop.Joined
namespace Go.Proofs.YtadiedcnkookhaaDoor
set_option linter.unusedVariables false
set_option linter.unusedSimpArgs false
open Go.ChangeShapes Go.WideShapes Go.ChangeAt Go.RowKit

theorem own_knob : ownKnob Tryd.prog.godebug = none := by kernel_rfl
theorem et_named : Tryd.prog.globalNamed "errors.errorType" = some 0 := by kernel_rfl
theorem rt_named : (Tryd.prog.cutTypes.find? (·.1 == "internal/reflectlite.rtype")).map (·.2) = some 136 := by kernel_rfl
theorem one_row : ((List.range 227).filter fun t => Tryd.prog.rowNamed t [101, 114, 114, 111, 114]) = [45] := by kernel_rfl
theorem types_size : Tryd.prog.types.size = 227 := by kernel_rfl

theorem errVar_of {W : World} (h : handlesMet Tryd.prog [("errors.errorType", Rows.laid_errors_errorType)] W) : ErrVar W := by
  obtain ⟨name, u, ty, e1, e2, e3, e4, e5⟩ := h _ (List.mem_singleton.2 rfl)
  have en : name = [101, 114, 114, 111, 114] := (Option.some.inj e1).symm
  subst en
  obtain rfl := Option.some.inj (rt_named.symm.trans e2)
  have hm : ty ∈ (List.range 227).filter fun t => Tryd.prog.rowNamed t [101, 114, 114, 111, 114] := List.mem_filter.2 ⟨List.mem_range.2 (by rw [← types_size]; exact e3), e4⟩
  rw [one_row] at hm
  obtain rfl := List.mem_singleton.1 hm
  have hh : typeHandle Tryd.prog 45 = .pointer (some ⟨7, 45, none⟩) := by kernel_rfl
  rw [hh] at e5
  unfold ErrVar
  simpa using World.var?_cell et_named e5 0
end Go.Proofs.YtadiedcnkookhaaDoor
