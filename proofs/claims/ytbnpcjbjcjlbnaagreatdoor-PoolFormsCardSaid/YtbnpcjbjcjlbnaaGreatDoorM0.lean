/-
  One call, reckoned.
-/
import Derived.Test.YtbnpcjbjcjlbnaaGreatDoorT
import Derived.Test.YtbnpcjbjcjlbnaaGreatDoorS
import Derived.KernelRfl
namespace Go.Pal
set_option maxRecDepth 100000
theorem m0 : beqR (E0 5 A0 S0) R0 = true := by kernel_rfl
end Go.Pal
