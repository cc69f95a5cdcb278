/- the law DeviceRestores: the join: its closed facts -/
import Derived.Test.YtojckjngjfgfdaaGreatRows
import Derived.JoinedOf
namespace Go.Proofs.YtojckjngjfgfdaaGreat
set_option linter.unusedSimpArgs false
set_option linter.unusedVariables false
set_option maxRecDepth 100000
theorem drest_joined : Go.joinedFacts Tryz.pinned.checked.prog 9 Tryz.f9 Rows.deviceRestoresSpec Rows.deviceRestoresRow = true := by kernel_rfl
end Go.Proofs.YtojckjngjfgfdaaGreat
