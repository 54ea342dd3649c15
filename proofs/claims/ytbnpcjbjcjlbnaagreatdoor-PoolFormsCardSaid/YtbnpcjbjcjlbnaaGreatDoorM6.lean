/-
  One call, reckoned.
-/
import Derived.Test.YtbnpcjbjcjlbnaaGreatDoorT
import Derived.Test.YtbnpcjbjcjlbnaaGreatDoorS
import Derived.KernelRfl
namespace Go.Pal
set_option maxRecDepth 100000
theorem m6 : beqR (E0 22 A6 S6) R6 = true := by kernel_rfl
end Go.Pal
