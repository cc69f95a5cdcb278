/- the law DeviceConverges: the join: its closed facts -/
import Derived.Test.YtojckjngjfgfdaaGreatRows
import Derived.JoinedOf
namespace Go.Proofs.YtojckjngjfgfdaaGreat
set_option linter.unusedSimpArgs false
set_option linter.unusedVariables false
set_option maxRecDepth 100000
theorem dconv_joined : Go.joinedFacts Tryz.pinned.checked.prog 6 Tryz.f6 Rows.deviceConvergesSpec Rows.deviceConvergesRow = true := by kernel_rfl
end Go.Proofs.YtojckjngjfgfdaaGreat
