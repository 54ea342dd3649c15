/-
  One call, reckoned.
-/
import Derived.Test.YtbnpcjbjcjlbnaaGreatDoorT
import Derived.Test.YtbnpcjbjcjlbnaaGreatDoorS
import Derived.KernelRfl
namespace Go.Pal
set_option maxRecDepth 100000
theorem m3 : beqR (E0 5 A3 S3) R3 = true := by kernel_rfl
end Go.Pal
