/-
  Some calls, reckoned: what the evaluator says of each.
-/
import Derived.Test.YtmomgakmgafdeaaGreatDoorT
import Derived.Test.YtmomgakmgafdeaaGreatDoorS
import Derived.KernelRfl
namespace Go.Pal
set_option maxRecDepth 100000
theorem m24 : beqR (E0 17 A24 S24) R24 = true := by kernel_rfl
theorem m25 : beqR (E0 53 A25 S25) R25 = true := by kernel_rfl
end Go.Pal
