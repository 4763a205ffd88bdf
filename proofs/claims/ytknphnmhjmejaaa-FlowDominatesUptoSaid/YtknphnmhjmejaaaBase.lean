/-  The given program's one fact that all functions' contracts ask. No conditions. -/
import Derived.Test.YtknphnmhjmejaaaProg
import Derived.Test.YtknphnmhjmejaaaDef
namespace Go.Proofs.Ytknphnmhjmejaaa
theorem mixed : Try.prog.follows .mixedOrders = true := by kernel_rfl
theorem big_val : big = 4611686018427387904 := rfl
end Go.Proofs.Ytknphnmhjmejaaa
