/-
  One call, reckoned.
-/
import Derived.Test.YtbnpcjbjcjlbnaaGreatDoorT
import Derived.Test.YtbnpcjbjcjlbnaaGreatDoorS
import Derived.KernelRfl
namespace Go.Pal
set_option maxRecDepth 100000
theorem m5 : beqR (E0 21 A5 S5) R5 = true := by kernel_rfl
end Go.Pal
