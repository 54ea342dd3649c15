/-
  Some calls, reckoned: what the evaluator says of each.
-/
import Derived.Test.YtmomgakmgafdeaaGreatDoorT
import Derived.Test.YtmomgakmgafdeaaGreatDoorS
import Derived.KernelRfl
namespace Go.Pal
set_option maxRecDepth 100000
theorem m16 : beqR (E0 57 A16 S16) R16 = true := by kernel_rfl
theorem m17 : beqR (E0 31 A17 S17) R17 = true := by kernel_rfl
theorem m18 : beqR (E0 57 A18 S18) R18 = true := by kernel_rfl
theorem m19 : beqR (E0 31 A19 S19) R19 = true := by kernel_rfl
end Go.Pal
