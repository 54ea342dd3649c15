/-
  Some calls, reckoned: what the evaluator says of each.
-/
import Derived.Test.YtmomgakmgafdeaaGreatDoorT
import Derived.Test.YtmomgakmgafdeaaGreatDoorS
import Derived.KernelRfl
namespace Go.Pal
set_option maxRecDepth 100000
theorem m0 : beqR (E0 31 A0 S0) R0 = true := by kernel_rfl
theorem m1 : beqR (E0 17 A1 S1) R1 = true := by kernel_rfl
theorem m2 : beqR (E0 53 A2 S2) R2 = true := by kernel_rfl
theorem m3 : beqR (E0 17 A3 S3) R3 = true := by kernel_rfl
end Go.Pal
