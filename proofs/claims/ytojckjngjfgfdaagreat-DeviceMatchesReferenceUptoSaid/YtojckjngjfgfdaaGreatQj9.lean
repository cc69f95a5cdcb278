/- the law DeviceMatchesReference, second form: its closed facts -/
import Derived.Test.YtojckjngjfgfdaaGreatRows
import Derived.JoinedOf
namespace Go.Proofs.YtojckjngjfgfdaaGreat
set_option linter.unusedSimpArgs false
set_option linter.unusedVariables false
set_option maxRecDepth 100000
theorem dmatch_joined : Go.joinedFacts Tryz.pinned.checked.prog 3 Tryz.f3 (Rows.OpenSpec.upto Rows.deviceMatchesReferenceSpec).bare Rows.deviceMatchesReferenceUptoRow = true := by kernel_rfl
end Go.Proofs.YtojckjngjfgfdaaGreat
