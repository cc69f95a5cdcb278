/- the law DevicePlaysMatchReference: the join: its closed facts -/
import Derived.Test.YtojckjngjfgfdaaGreatRows
import Derived.JoinedOf
namespace Go.Proofs.YtojckjngjfgfdaaGreat
set_option linter.unusedSimpArgs false
set_option linter.unusedVariables false
set_option maxRecDepth 100000
theorem dplays_joined : Go.joinedFacts Tryz.pinned.checked.prog 4 Tryz.f4 Rows.devicePlaysMatchReferenceSpec Rows.devicePlaysMatchReferenceRow = true := by kernel_rfl
end Go.Proofs.YtojckjngjfgfdaaGreat
