/- Proofs about the front of the overload controller, part 29: C45h. -/
import Derived.Test.YtdodcfbmpmapmaaGreatW23
import Derived.Test.YtdodcfbmpmapmaaGreatW28
set_option linter.all false
set_option linter.constructorNameAsVariable false
set_option linter.unusedVariables false
/- FrontNil: for every config, thread, call and time it returns true. No conditions. -/
set_option linter.all false
namespace Go.Proofs.YtdodcfbmpmapmaaGreat
open Go.ChangeShapes Go.WideShapes Go.ChangeAt Go.RowKit Go.Joins Go.Deep

theorem over8 : Rows.frontNilRow.holds Tryz.pinned (OpenSpec.ofChange Rows.frontNilSpec) :=
  OpenClaim.holds_of_wide 8 Tryz.f8 rfl rfl rfl rfl rfl rfl rfl ⟨rfl, rfl, rfl, rfl, rfl⟩ rfl rfl rfl rfl rfl named8 Tryz.func8 facts8
    inst8 wrap8
    (fun os started H enc _ => lifted8 os started H enc)

/-- The statement: FrontNil returns true whatever the input; the input reads as it did. -/
theorem frontNil_holds : Rows.FrontNilSaid := over8
#print axioms frontNil_holds
end Go.Proofs.YtdodcfbmpmapmaaGreat
