/- the law DeviceMatchesReference: its closed facts -/
import Derived.Test.YtcjdbfnnbejmeaaGreatRows
import Derived.JoinedOf
namespace Go.Proofs.YtcjdbfnnbejmeaaGreat
set_option linter.unusedSimpArgs false
set_option linter.unusedVariables false
set_option maxRecDepth 100000
theorem dmatchw_joined : Go.joinedFacts Tryz.pinned.checked.prog 3 Tryz.f3 Rows.deviceMatchesReferenceSpec Rows.deviceMatchesReferenceRow = true := by kernel_rfl
end Go.Proofs.YtcjdbfnnbejmeaaGreat
