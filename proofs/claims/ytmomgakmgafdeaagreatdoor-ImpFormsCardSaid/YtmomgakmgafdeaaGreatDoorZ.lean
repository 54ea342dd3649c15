/-
  The closed run.
-/
import Derived.Test.YtmomgakmgafdeaaGreatDoorQ
import Derived.Test.YtmomgakmgafdeaaGreatDoorM0
import Derived.Test.YtmomgakmgafdeaaGreatDoorM1
import Derived.Test.YtmomgakmgafdeaaGreatDoorM2
import Derived.Test.YtmomgakmgafdeaaGreatDoorM3
import Derived.Test.YtmomgakmgafdeaaGreatDoorM4
import Derived.Test.YtmomgakmgafdeaaGreatDoorM5
import Derived.Test.YtmomgakmgafdeaaGreatDoorM6
namespace Go.Pal
open Go.Proofs Go.RowKit
set_option maxRecDepth 100000
noncomputable def q1 : OT := [(31, (memo A0 S0 R0 (memo A8 S8 R8 (memo A17 S17 R17 (memo A19 S19 R19 E0))))), (17, (memo A1 S1 R1 (memo A3 S3 R3 (memo A5 S5 R5 (memo A7 S7 R7 (memo A9 S9 R9 (memo A10 S10 R10 (memo A11 S11 R11 (memo A12 S12 R12 (memo A14 S14 R14 (memo A20 S20 R20 (memo A24 S24 R24 E0)))))))))))), (53, (memo A2 S2 R2 (memo A6 S6 R6 (memo A13 S13 R13 (memo A21 S21 R21 (memo A22 S22 R22 (memo A25 S25 R25 E0))))))), (54, (memo A4 S4 R4 (memo A15 S15 R15 E0))), (57, (memo A16 S16 R16 (memo A18 S18 R18 E0))), (119, (memo A23 S23 R23 E0)), (229, oRepeat), (44, oRead)]
theorem q1_ok : OT.Ok Tryz.prog q1 := ⟨(memo_ok E0_ok (beqR_of m0) (memo_ok E0_ok (beqR_of m8) (memo_ok E0_ok (beqR_of m17) (memo_ok E0_ok (beqR_of m19) (OracOk.call E0_ok 31))))), (memo_ok E0_ok (beqR_of m1) (memo_ok E0_ok (beqR_of m3) (memo_ok E0_ok (beqR_of m5) (memo_ok E0_ok (beqR_of m7) (memo_ok E0_ok (beqR_of m9) (memo_ok E0_ok (beqR_of m10) (memo_ok E0_ok (beqR_of m11) (memo_ok E0_ok (beqR_of m12) (memo_ok E0_ok (beqR_of m14) (memo_ok E0_ok (beqR_of m20) (memo_ok E0_ok (beqR_of m24) (OracOk.call E0_ok 17)))))))))))), (memo_ok E0_ok (beqR_of m2) (memo_ok E0_ok (beqR_of m6) (memo_ok E0_ok (beqR_of m13) (memo_ok E0_ok (beqR_of m21) (memo_ok E0_ok (beqR_of m22) (memo_ok E0_ok (beqR_of m25) (OracOk.call E0_ok 53))))))), (memo_ok E0_ok (beqR_of m4) (memo_ok E0_ok (beqR_of m15) (OracOk.call E0_ok 54))), (memo_ok E0_ok (beqR_of m16) (memo_ok E0_ok (beqR_of m18) (OracOk.call E0_ok 57))), (memo_ok E0_ok (beqR_of m23) (OracOk.call E0_ok 119)), orep_ok, oread_ok, trivial⟩
noncomputable def E1 : FT := (evAll (OT.get q1) tab.get 100000).2
theorem E1_ok : CallOk Tryz.prog E1 := ev_ok mixed tab_ok q1_ok _
theorem the_run : isTrue (E1 3 [] s0) = true := by kernel_rfl
theorem the_walk (w : World) : Calls Tryz.prog 3 #[] w fun e w' => e = .returned (.bool true) ∧ Below w.heap.size w w' := closed E1_ok (isTrue_of the_run) w
#print axioms the_walk
end Go.Pal
