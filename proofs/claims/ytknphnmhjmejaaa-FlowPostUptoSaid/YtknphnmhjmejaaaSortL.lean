/-  The library's sort of numbers, laid at this program. No conditions. -/
import Derived.Test.YtknphnmhjmejaaaBase
import Derived.Test.YtknphnmhjmejaaaSort
import Derived.Shelf.Lay
import Derived.Ground.Names2Prog
namespace Go.Proofs
open Go.Shelf
shelf_lay Lays.n189 Nm 189 at Try as Try.lays189
end Go.Proofs
namespace Go.Proofs.Ytknphnmhjmejaaa
theorem good_slices_Sort_int : GoodC Try.prog 67 (.gen sortG) := sort_good Try.lays189 (Go.Proofs.enters_of (by kernel_rfl : Try.prog.funcs[67]? = some Try.f67) rfl rfl)
end Go.Proofs.Ytknphnmhjmejaaa
