/- the law DeviceNumbers: the join: its closed facts -/
import Derived.Test.YtojckjngjfgfdaaGreatRows
import Derived.JoinedOf
namespace Go.Proofs.YtojckjngjfgfdaaGreat
set_option linter.unusedSimpArgs false
set_option linter.unusedVariables false
set_option maxRecDepth 100000
theorem dnum_joined : Go.joinedFacts Tryz.pinned.checked.prog 5 Tryz.f5 Rows.deviceNumbersSpec Rows.deviceNumbersRow = true := by kernel_rfl
end Go.Proofs.YtojckjngjfgfdaaGreat
