/-
  Some calls, reckoned: what the evaluator says of each.
-/
import Derived.Test.YtmomgakmgafdeaaGreatDoorT
import Derived.Test.YtmomgakmgafdeaaGreatDoorS
import Derived.KernelRfl
namespace Go.Pal
set_option maxRecDepth 100000
theorem m8 : beqR (E0 31 A8 S8) R8 = true := by kernel_rfl
theorem m9 : beqR (E0 17 A9 S9) R9 = true := by kernel_rfl
theorem m10 : beqR (E0 17 A10 S10) R10 = true := by kernel_rfl
theorem m11 : beqR (E0 17 A11 S11) R11 = true := by kernel_rfl
end Go.Pal
