/- Proofs about the front of the overload controller, part 28: C45g. -/
import Derived.Test.YtdodcfbmpmapmaaGreatW24
import Derived.Test.YtdodcfbmpmapmaaGreatW25
import Derived.Test.YtdodcfbmpmapmaaGreatW26
import Derived.Test.YtdodcfbmpmapmaaGreatW27
set_option linter.all false
set_option linter.constructorNameAsVariable false
set_option linter.unusedVariables false
/- FrontNil: the closed facts of its row. -/
set_option linter.all false
namespace Go.Proofs.YtdodcfbmpmapmaaGreat
open Go.ChangeShapes Go.WideShapes Go.ChangeAt Go.RowKit Go.Joins Go.Deep

set_option maxHeartbeats 8000000 in
set_option maxRecDepth 100000 in
theorem facts8 : joinedFacts Tryz.prog 8 Tryz.f8 Rows.frontNilSpec Rows.frontNilRow = true := by
  unfold joinedFacts
  simp only [Bool.and_eq_true]
  repeat' (apply And.intro)
  iterate 9 (next => (as_aux_lemma => kernel_rfl))
  next => exact inPlace8
  next => exact unfollowed8
  next => exact recurses8
  next => exact named8v
  all_goals (as_aux_lemma => kernel_rfl)

theorem named8 : Tryz.checked.prog.funcNamed Rows.frontNilRow.func = some 8 := by kernel_rfl

theorem wrap8 : Tryz.f8.isWrapper Tryz.prog Rows.frontNilRow.wrapper Rows.frontNilRow.mainSum := by
  unfold Func.isWrapper
  first | (rw [if_pos (by decide +kernel)]; kernel_rfl) | (rw [if_neg (by decide +kernel)]; exact ⟨rfl, rfl⟩)

theorem inst8 : Tryz.f8.isInstance Tryz.prog Rows.frontNilRow.origin Rows.frontNilRow.targs := of_decide_eq_true (by kernel_rfl)

end Go.Proofs.YtdodcfbmpmapmaaGreat
