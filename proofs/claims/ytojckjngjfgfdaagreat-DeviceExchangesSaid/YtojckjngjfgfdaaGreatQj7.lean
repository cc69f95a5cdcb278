/- the law DeviceExchanges: the join: its closed facts -/
import Derived.Test.YtojckjngjfgfdaaGreatRows
import Derived.JoinedOf
namespace Go.Proofs.YtojckjngjfgfdaaGreat
set_option linter.unusedSimpArgs false
set_option linter.unusedVariables false
set_option maxRecDepth 100000
theorem dexch_joined : Go.joinedFacts Tryz.pinned.checked.prog 8 Tryz.f8 Rows.deviceExchangesSpec Rows.deviceExchangesRow = true := by kernel_rfl
end Go.Proofs.YtojckjngjfgfdaaGreat
