/-
  DERIVED: THE SHELF's CONTRACTS AT THIS DUMP, IN PLAIN WORDS (tools/lay-plain.mjs out of 'TryzShelf.lean', which tools/lay-shelf.mjs wrote): THE SAME DECLARATIONS UNDER THE SAME NAMES: 'import', 'namespace', 'open', 'def', 'theorem' AND NOTHING ELSE: no command of the shelf's: FOR A HAND-IN. Each laying: the table of numbers ('.._ren') and one theorem, a field a fact of the dump's own or the kernel's comparison; each contract: ONE APPLICATION.
-/
import Derived.Shelf.Strings.Repeat
import Derived.Test.YtmomgakmgafdeaaGreatDoorProg
namespace Go.Proofs
open Go.Shelf
def Tryz.lays105_ren : Go.Shelf.Ren := ⟨fun | 105 => 229 | 212 => 275 | 99 => 276 | 165 => 277 | 166 => 278 | 170 => 279 | 169 => 280 | 263 => 320 | 264 => 321 | 206 => 322 | 240 => 323 | 241 => 324 | 276 => 345 | 277 => 346 | n => n, fun | 9 => 9 | 3 => 3 | 4 => 4 | 20 => 20 | 0 => 0 | 46 => 182 | 109 => 333 | 5 => 5 | 72 => 338 | 76 => 341 | 51 => 27 | 146 => 376 | 53 => 262 | 148 => 378 | 70 => 336 | 37 => 45 | 75 => 340 | 127 => 380 | 164 => 397 | 80 => 103 | n => n, fun | n => n⟩
theorem Tryz.lays105 : Go.Proofs.Lays.n105 Tryz.prog Tryz.lays105_ren := {
  mixed := by kernel_rfl
  f99 := Tryz.func276.trans (congrArg some (by kernel_rfl))
  f105 := Tryz.func229.trans (congrArg some (by kernel_rfl))
  f165 := Tryz.func277.trans (congrArg some (by kernel_rfl))
  f166 := Tryz.func278.trans (congrArg some (by kernel_rfl))
  f169 := Tryz.func280.trans (congrArg some (by kernel_rfl))
  f170 := Tryz.func279.trans (congrArg some (by kernel_rfl))
  f206 := Tryz.func322.trans (congrArg some (by kernel_rfl))
  f212 := Tryz.func275.trans (congrArg some (by kernel_rfl))
  f240 := Tryz.func323.trans (congrArg some (by kernel_rfl))
  f241 := Tryz.func324.trans (congrArg some (by kernel_rfl))
  f263 := Tryz.func320.trans (congrArg some (by kernel_rfl))
  f264 := Tryz.func321.trans (congrArg some (by kernel_rfl))
  f276 := Tryz.func345.trans (congrArg some (by kernel_rfl))
  f277 := Tryz.func346.trans (congrArg some (by kernel_rfl))
  t0 := Tryz.underlying0
  a0 := Tryz.isAgg0
  z0 := Tryz.sizeOf0
  v0 := Tryz.zeroValue0
  t3 := Tryz.underlying3
  a3 := Tryz.isAgg3
  z3 := Tryz.sizeOf3
  v3 := Tryz.zeroValue3
  t4 := Tryz.underlying4
  a4 := Tryz.isAgg4
  z4 := Tryz.sizeOf4
  v4 := Tryz.zeroValue4
  t5 := Tryz.underlying5
  a5 := Tryz.isAgg5
  z5 := Tryz.sizeOf5
  v5 := Tryz.zeroValue5
  t9 := Tryz.underlying9
  a9 := Tryz.isAgg9
  z9 := Tryz.sizeOf9
  v9 := Tryz.zeroValue9
  t20 := Tryz.underlying20
  a20 := Tryz.isAgg20
  z20 := Tryz.sizeOf20
  v20 := Tryz.zeroValue20
  t37 := Tryz.underlying45
  a37 := Tryz.isAgg45
  z37 := Tryz.sizeOf45
  v37 := Tryz.zeroValue45
  t46 := Tryz.underlying182
  a46 := Tryz.isAgg182
  z46 := Tryz.sizeOf182
  v46 := Tryz.zeroValue182
  t51 := Tryz.underlying27
  a51 := Tryz.isAgg27
  z51 := Tryz.sizeOf27
  v51 := Tryz.zeroValue27
  t53 := Tryz.underlying262
  a53 := Tryz.isAgg262
  z53 := Tryz.sizeOf262
  v53 := Tryz.zeroValue262
  t70 := Tryz.underlying336
  a70 := Tryz.isAgg336
  z70 := Tryz.sizeOf336
  v70 := Tryz.zeroValue336
  t72 := Tryz.underlying338
  a72 := Tryz.isAgg338
  z72 := Tryz.sizeOf338
  v72 := Tryz.zeroValue338
  t75 := Tryz.underlying340
  a75 := Tryz.isAgg340
  z75 := Tryz.sizeOf340
  v75 := Tryz.zeroValue340
  t76 := Tryz.underlying341
  a76 := Tryz.isAgg341
  z76 := Tryz.sizeOf341
  v76 := Tryz.zeroValue341
  t109 := Tryz.underlying333
  a109 := Tryz.isAgg333
  z109 := Tryz.sizeOf333
  v109 := Tryz.zeroValue333
  t127 := Tryz.underlying380
  a127 := Tryz.isAgg380
  z127 := Tryz.sizeOf380
  v127 := Tryz.zeroValue380
  t146 := Tryz.underlying376
  a146 := Tryz.isAgg376
  z146 := Tryz.sizeOf376
  v146 := Tryz.zeroValue376
  t148 := Tryz.underlying378
  a148 := Tryz.isAgg378
  z148 := Tryz.sizeOf378
  v148 := Tryz.zeroValue378
  t164 := Tryz.underlying397
  a164 := Tryz.isAgg397
  z164 := Tryz.sizeOf397
  v164 := Tryz.zeroValue397 }
theorem Tryz.Builder_Extra_105 : Builder.Extra Tryz.prog Tryz.lays105_ren := {
  sizeBuilder := by kernel_rfl
  liesBuilder := by kernel_rfl
  t5 := Tryz.underlying5
  a5 := Tryz.isAgg5
  z5 := Tryz.sizeOf5
  v5 := Tryz.zeroValue5
  infoByte := by kernel_rfl
  cellsByte := by kernel_rfl
  sizeByte := by kernel_rfl
  neB5 := by decide }
open Go.RowKit Go.Lib in
/-- **strings.Repeat: count ≥ 0, the result within one allocation: count copies of s.** (LAID: no walk: one application.) -/
theorem Tryz.strings_Repeat (s : ByteArray) (c : Nat) (w : World) (hc : c ≤ 9223372036854775807) (hlen : s.size * c ≤ 140737488355328) :
    Calls Tryz.prog 229 #[.string s, .int .i64 c] w fun e w' => e = .returned (.string ⟨(Lib.repeatL s.data.toList c).toArray⟩) ∧ Below w.heap.size w w' := Any.strings_Repeat Tryz.lays105 Tryz.Builder_Extra_105 s c w hc hlen
end Go.Proofs
