/- TopMergedDays returns true for all lists of edits, all edits and all raw zones; there are no conditions.: its closed facts -/
import Derived.Test.YtdgndfabdmecmaaGreatRows
import Derived.JoinedOf
namespace Go.Proofs.YtdgndfabdmecmaaGreat
set_option linter.unusedSimpArgs false
set_option linter.unusedVariables false
set_option maxRecDepth 100000
theorem topmerged_joined : Go.joinedFacts Tryz.pinned.checked.prog 4 Tryz.f4 Rows.topMergedDaysSpec Rows.topMergedDaysRow = true := by kernel_rfl
end Go.Proofs.YtdgndfabdmecmaaGreat
