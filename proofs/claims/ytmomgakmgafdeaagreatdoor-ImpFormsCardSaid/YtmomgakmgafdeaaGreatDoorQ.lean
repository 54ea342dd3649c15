/-
  The oracles hold of this program; so does the evaluator.
-/
import Derived.Test.YtmomgakmgafdeaaGreatDoorFc
import Derived.Test.YtmomgakmgafdeaaGreatDoorRep
import Derived.Test.YtmomgakmgafdeaaGreatDoorRead
namespace Go.Pal
open Go.Proofs Go.RowKit
set_option maxRecDepth 100000
theorem orep_ok : OracOk Tryz.prog 229 oRepeat := oRepeat_ok ⟨_, Tryz.func229, by kernel_rfl, by decide⟩ Tryz.strings_Repeat
theorem oread_ok : OracOk Tryz.prog 44 oRead := oRead_ok ⟨_, Tryz.func44, by kernel_rfl, by decide⟩ Tryz.read_down
  (fun a p len lc n2 cap lies arm i hi w => Tryz.read_out a p len lc n2 cap lies arm i hi w)
  fun lb lo len lc cap p lies arm i hi s w hlb hc => (callsIn_wide (n := 3)).1 (Tryz.read_in .wide 3 trivial trivial trivial trivial rfl (by omega) lb lo len lc cap p lies arm i hi s w hlb hc)
theorem q0_ok : OT.Ok Tryz.prog q0 := ⟨orep_ok, oread_ok, trivial⟩
theorem E0_ok : CallOk Tryz.prog E0 := ev_ok mixed tab_ok q0_ok _
end Go.Pal
