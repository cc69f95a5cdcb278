/- EditPurity returns true for all lists of edits and all edits, and leaves its arguments as they were; there are no conditions.: its closed facts -/
import Derived.Test.YtpnhiknfcpkfbaaRows
import Derived.JoinedOf
namespace Go.Proofs.Ytpnhiknfcpkfbaa
set_option linter.unusedSimpArgs false
set_option linter.unusedVariables false
set_option maxRecDepth 100000
theorem epurity_joined : Go.joinedFacts Try.pinned.checked.prog 10 Try.f10 Rows.editPuritySpec Rows.editPurityRow = true := by kernel_rfl
end Go.Proofs.Ytpnhiknfcpkfbaa
