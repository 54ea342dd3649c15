/-
  One call, reckoned.
-/
import Derived.Test.YtbnpcjbjcjlbnaaGreatDoorT
import Derived.Test.YtbnpcjbjcjlbnaaGreatDoorS
import Derived.KernelRfl
namespace Go.Pal
set_option maxRecDepth 100000
theorem m2 : beqR (E0 21 A2 S2) R2 = true := by kernel_rfl
end Go.Pal
