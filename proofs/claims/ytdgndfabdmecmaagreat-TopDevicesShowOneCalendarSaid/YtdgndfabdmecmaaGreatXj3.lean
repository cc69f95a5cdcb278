/- TopDevicesShowOneCalendar returns true for all lists of operations, all edits and all raw zones; there are no conditions.: its closed facts -/
import Derived.Test.YtdgndfabdmecmaaGreatRows
import Derived.JoinedOf
namespace Go.Proofs.YtdgndfabdmecmaaGreat
set_option linter.unusedSimpArgs false
set_option linter.unusedVariables false
set_option maxRecDepth 100000
theorem zcL:Go.joinedFacts Tryz.pinned.checked.prog 5 Tryz.f5 Rows.topDevicesShowOneCalendarSpec Rows.topDevicesShowOneCalendarRow=true:=by kernel_rfl
end Go.Proofs.YtdgndfabdmecmaaGreat
