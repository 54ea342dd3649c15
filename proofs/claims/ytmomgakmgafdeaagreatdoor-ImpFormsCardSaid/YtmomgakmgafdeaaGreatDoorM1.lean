/-
  Some calls, reckoned: what the evaluator says of each.
-/
import Derived.Test.YtmomgakmgafdeaaGreatDoorT
import Derived.Test.YtmomgakmgafdeaaGreatDoorS
import Derived.KernelRfl
namespace Go.Pal
set_option maxRecDepth 100000
theorem m4 : beqR (E0 54 A4 S4) R4 = true := by kernel_rfl
theorem m5 : beqR (E0 17 A5 S5) R5 = true := by kernel_rfl
theorem m6 : beqR (E0 53 A6 S6) R6 = true := by kernel_rfl
theorem m7 : beqR (E0 17 A7 S7) R7 = true := by kernel_rfl
end Go.Pal
