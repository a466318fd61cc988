/- What the rows' condition on errors.errorType gives a walk, and a world that meets it; no conditions of their own. -/
import Derived.Test.YtpoopgifikcneaaDoorAs
import Derived.Test.YtpoopgifikcneaaDoorRows
import Derived.Test.YtpoopgifikcneaaDoorCards
import Derived.Test.YtpoopgifikcneaaDoorTie
import Derived.ProofKit
import Derived.OpenShut
import Derived.ChangeSame
import Derived.ChangeVars
import Derived.JoinedOf
import Derived.RowKit
import Derived.RowKitTokens
import Derived.LaidLaws
import Derived.LaidHandle
import Derived.Stop.Joined
import Derived.SevenTiedAt
set_option linter.unusedVariables false
namespace Go.Proofs.YtpoopgifikcneaaDoor
open Go.ChangeShapes Go.WideShapes Go.RowKit

theorem ownD : ownKnob Tryd.prog.godebug = none := by kernel_rfl
theorem laidOutD : laidOutB Tryd.prog = true := by kernel_rfl
theorem ltVar : Tryd.prog.globalNamed "errors.errorType" = some 0 := by kernel_rfl
theorem ltRtype : (Tryd.prog.cutTypes.find? (·.1 == "internal/reflectlite.rtype")).map (·.2) = some 199 := by kernel_rfl
theorem ltRow : ((List.range 271).filter fun t => Tryd.prog.rowNamed t [101, 114, 114, 111, 114]) = [56] := by kernel_rfl
theorem ltSize : Tryd.prog.types.size = 271 := by kernel_rfl

theorem laid_of {W : World} (h : laidMetH Tryd.prog [("errors.errorType", Rows.laid_errors_errorType)] W) : Laid W := by
  have h' : laidMet Tryd.prog [] W ∧ handlesMet Tryd.prog [("errors.errorType", Rows.laid_errors_errorType)] W := h
  obtain ⟨name, u, ty, e1, e2, e3, e4, e5⟩ := h'.2 _ (List.mem_singleton.2 rfl)
  have en : name = [101, 114, 114, 111, 114] := (Option.some.inj e1).symm
  subst en
  obtain rfl := Option.some.inj (ltRtype.symm.trans e2)
  have hm : ty ∈ (List.range 271).filter fun t => Tryd.prog.rowNamed t [101, 114, 114, 111, 114] := List.mem_filter.2 ⟨List.mem_range.2 (by rw [← ltSize]; exact e3), e4⟩
  rw [ltRow] at hm
  obtain rfl := List.mem_singleton.1 hm
  have hh : typeHandle Tryd.prog 56 = .pointer (some ⟨5, 56, none⟩) := by kernel_rfl
  rw [hh] at e5
  have := World.var?_cell ltVar e5 0
  unfold Laid
  simpa using this

/-- A world that meets the condition: the settled one, the variable's cell laid. -/
noncomputable def laidWorld (os : Os) : World :=
  let w0 := World.holding Tryd.prog os ⟨#[], #[], []⟩
  { w0 with heap := w0.heap.modify 0 fun
      | .cells _ t frozen => .cells #[.iface 199 (.agg #[.pointer (some ⟨5, 56, none⟩)])] t frozen
      | o => o }
theorem laidWorld_met (os : Os) (args : Array Value) : laidMetH Tryd.prog [("errors.errorType", Rows.laid_errors_errorType)] ((laidWorld os).forCall (fun _ _ => 0) ⟨#[], args, []⟩).memory :=
  laidMetH_of_parts (laidMet_nil _ _) (by kernel_rfl)

end Go.Proofs.YtpoopgifikcneaaDoor
