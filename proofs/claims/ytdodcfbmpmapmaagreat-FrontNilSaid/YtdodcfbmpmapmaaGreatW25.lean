/- Proofs about the front of the overload controller, part 25: C45d. -/
import Derived.Test.YtdodcfbmpmapmaaGreatW23
set_option linter.all false
set_option linter.constructorNameAsVariable false
set_option linter.unusedVariables false
/- FrontNil: a closed fact of its row. -/
set_option linter.all false
namespace Go.Proofs.YtdodcfbmpmapmaaGreat
open Go.ChangeShapes Go.WideShapes Go.ChangeAt Go.RowKit Go.Joins Go.Deep

theorem unfollowed8 : (Rows.frontNilRow.unfollowed == Tryz.prog.unfollowed 8) = true := by kernel_rfl

end Go.Proofs.YtdodcfbmpmapmaaGreat
