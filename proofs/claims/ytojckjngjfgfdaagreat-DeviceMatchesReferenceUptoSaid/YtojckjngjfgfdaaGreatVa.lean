/- Written by a program of ours: the looked-up code, all of it. -/
import Derived.Test.YtojckjngjfgfdaaGreatVa0
import Derived.Test.YtojckjngjfgfdaaGreatVa1
namespace Go.Proofs.YtojckjngjfgfdaaGreat
set_option linter.unusedSimpArgs false
set_option linter.unusedVariables false
open Go.Proofs.YtojckjngjfgfdaaGreat.Vc
theorem mix : Tryz.prog.follows .mixedOrders = true := by kernel_rfl
end Go.Proofs.YtojckjngjfgfdaaGreat
