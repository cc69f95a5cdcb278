/- the law DeviceKeeps: the join: its closed facts -/
import Derived.Test.YtojckjngjfgfdaaGreatRows
import Derived.JoinedOf
namespace Go.Proofs.YtojckjngjfgfdaaGreat
set_option linter.unusedSimpArgs false
set_option linter.unusedVariables false
set_option maxRecDepth 100000
theorem dkeeps_joined : Go.joinedFacts Tryz.pinned.checked.prog 7 Tryz.f7 Rows.deviceKeepsSpec Rows.deviceKeepsRow = true := by kernel_rfl
end Go.Proofs.YtojckjngjfgfdaaGreat
