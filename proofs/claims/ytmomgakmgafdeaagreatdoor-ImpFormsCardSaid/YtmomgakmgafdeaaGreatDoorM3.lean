/-
  Some calls, reckoned: what the evaluator says of each.
-/
import Derived.Test.YtmomgakmgafdeaaGreatDoorT
import Derived.Test.YtmomgakmgafdeaaGreatDoorS
import Derived.KernelRfl
namespace Go.Pal
set_option maxRecDepth 100000
theorem m12 : beqR (E0 17 A12 S12) R12 = true := by kernel_rfl
theorem m13 : beqR (E0 53 A13 S13) R13 = true := by kernel_rfl
theorem m14 : beqR (E0 17 A14 S14) R14 = true := by kernel_rfl
theorem m15 : beqR (E0 54 A15 S15) R15 = true := by kernel_rfl
end Go.Pal
