/-
  The closed run.
-/
import Derived.Test.YtbnpcjbjcjlbnaaGreatDoorQ
import Derived.Test.YtbnpcjbjcjlbnaaGreatDoorM0
import Derived.Test.YtbnpcjbjcjlbnaaGreatDoorM1
import Derived.Test.YtbnpcjbjcjlbnaaGreatDoorM2
import Derived.Test.YtbnpcjbjcjlbnaaGreatDoorM3
import Derived.Test.YtbnpcjbjcjlbnaaGreatDoorM4
import Derived.Test.YtbnpcjbjcjlbnaaGreatDoorM5
import Derived.Test.YtbnpcjbjcjlbnaaGreatDoorM6
import Derived.Test.YtbnpcjbjcjlbnaaGreatDoorM7
import Derived.Test.YtbnpcjbjcjlbnaaGreatDoorM8
namespace Go.Pal
open Go.Proofs Go.RowKit
set_option maxRecDepth 100000
noncomputable def q1 : OT := [(5, (memo A0 S0 R0 (memo A3 S3 R3 E0))), (22, (memo A1 S1 R1 (memo A4 S4 R4 (memo A6 S6 R6 (memo A7 S7 R7 E0))))), (21, (memo A2 S2 R2 (memo A5 S5 R5 (memo A8 S8 R8 E0)))), (71, oRepeat), (132, oRead)]
theorem q1_ok : OT.Ok Tryz.prog q1 := ⟨(memo_ok E0_ok (beqR_of m0) (memo_ok E0_ok (beqR_of m3) (OracOk.call E0_ok 5))), (memo_ok E0_ok (beqR_of m1) (memo_ok E0_ok (beqR_of m4) (memo_ok E0_ok (beqR_of m6) (memo_ok E0_ok (beqR_of m7) (OracOk.call E0_ok 22))))), (memo_ok E0_ok (beqR_of m2) (memo_ok E0_ok (beqR_of m5) (memo_ok E0_ok (beqR_of m8) (OracOk.call E0_ok 21)))), orep_ok, oread_ok, trivial⟩
noncomputable def E1 : FT := (evAll (OT.get q1) tab.get 100000).2
theorem E1_ok : CallOk Tryz.prog E1 := ev_ok mixed tab_ok q1_ok _
theorem the_run : isTrue (E1 3 [] s0) = true := by kernel_rfl
theorem the_walk (w : World) : Calls Tryz.prog 3 #[] w fun e w' => e = .returned (.bool true) ∧ Below w.heap.size w w' := closed E1_ok (isTrue_of the_run) w
#print axioms the_walk
end Go.Pal
