/- TopEditsInAnyOrder returns true for all lists of edits, all numbers and all raw zones; there are no conditions.: its closed facts -/
import Derived.Test.YtdgndfabdmecmaaGreatRows
import Derived.JoinedOf
namespace Go.Proofs.YtdgndfabdmecmaaGreat
set_option linter.unusedSimpArgs false
set_option linter.unusedVariables false
set_option maxRecDepth 100000
theorem topany_joined : Go.joinedFacts Tryz.pinned.checked.prog 3 Tryz.f3 Rows.topEditsInAnyOrderSpec Rows.topEditsInAnyOrderRow = true := by kernel_rfl
end Go.Proofs.YtdgndfabdmecmaaGreat
