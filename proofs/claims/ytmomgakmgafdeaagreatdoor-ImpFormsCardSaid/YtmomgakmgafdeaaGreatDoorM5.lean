/-
  Some calls, reckoned: what the evaluator says of each.
-/
import Derived.Test.YtmomgakmgafdeaaGreatDoorT
import Derived.Test.YtmomgakmgafdeaaGreatDoorS
import Derived.KernelRfl
namespace Go.Pal
set_option maxRecDepth 100000
theorem m20 : beqR (E0 17 A20 S20) R20 = true := by kernel_rfl
theorem m21 : beqR (E0 53 A21 S21) R21 = true := by kernel_rfl
theorem m22 : beqR (E0 53 A22 S22) R22 = true := by kernel_rfl
theorem m23 : beqR (E0 119 A23 S23) R23 = true := by kernel_rfl
end Go.Pal
