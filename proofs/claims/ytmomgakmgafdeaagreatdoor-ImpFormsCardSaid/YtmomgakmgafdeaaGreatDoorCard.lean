/-
  The statement: the closed law returns true, whatever the world; its card, tied.
-/
import Derived.Test.YtmomgakmgafdeaaGreatDoorCards
import Derived.Test.YtmomgakmgafdeaaGreatDoorTie
import Derived.WalkKit
import Derived.ProofKit
import Derived.OpenShut
import Derived.Deep.DeepHandedRow
import Derived.SevenTiedAt
import Derived.Below
import Derived.ChangeSame
import Derived.Test.YtmomgakmgafdeaaGreatDoorZ
namespace Go.Proofs.YtmomgakmgafdeaaGreatDoor.impForms
open Go.ChangeShapes Go.WideShapes Go.ChangeAt Go.RowKit

theorem own : ownKnob Tryz.prog.godebug = none := by kernel_rfl

set_option maxRecDepth 100000 in
/-- What the run gives, in every world: true; of what was there nothing has turned. -/
theorem contract (H : Type) (enc : TypeId × Value → H) (W : World) (args : Array Value) (ds gs : List (DataW H)) (before : List MemPlace)
    (hW : DataW.Whole enc Tryz.prog Tryz.f3.params.toList Rows.impFormsSpec.vars false W args.toList ds gs before) :
    Calls Tryz.prog 3 args W fun e W' => ∃ v, e = .returned v ∧ Rows.impFormsSpec.post enc Tryz.prog Tryz.f3 false true false false W args v W' := by
  have hW' := hW
  obtain ⟨p, q, hA0, hV, rfl, hfz, hnd⟩ := hW
  have hA : DataW.TrodAll enc Tryz.prog W 0 (fun _ => true) true Tryz.f3.params.toList args.toList ds p := hA0
  rw [Tryz.params3] at hA
  obtain ⟨ha, rfl, rfl⟩ := trodAll_none hA
  obtain rfl : args = #[] := by cases args; simp_all
  obtain ⟨rfl, rfl⟩ := trodVars_none hV
  clear hA0
  simp only [List.append_nil] at hW'
  refine (Go.Pal.the_walk W).mono fun e W' ⟨he, hb⟩ => ?_
  subst he
  have hres : ∀ (b : Nat) (sp : Nat → Bool) (hd : Bool), DataW.TrodAll enc Tryz.prog W' b sp hd Tryz.f3.resultTypes.toList ((Value.bool true).resultList Tryz.f3.resultTypes.size) (Rows.impFormsSpec.fn H ([] ++ [])).results [] :=
    fun _ _ _ => trodAll_cons_mk (shut_bool Tryz.underlying4 _) trodAll_mk0
  have hvars : ∀ sp : Nat → Bool, DataW.TrodVars enc Tryz.prog W' sp Rows.impFormsSpec.vars (Rows.impFormsSpec.fn H ([] ++ [])).vars [] := fun _ => rfl
  refine ⟨_, rfl, [], [], [], [], [], [], hW', hres _ _ _, rfl, hvars _, World.keptBut_mono (fun p hp => by cases hp) (hb.frame (· ∈ [])), fun _ => ⟨ok_one (by kernel_rfl) rfl (okWide_bool_mk Tryz.underlying4 _), _, _, [], ⟨[], [], hres _ _ _, hvars _, rfl, ?_, ?_⟩, ?_⟩⟩
  · intro b off hp; cases hp
  · intro ha; exact List.nodup_nil
  · intro p hp _; cases hp

/-- An object of these cells. -/
def laying (c : Array Value) : Obj → Obj
  | .cells _ t frozen => .cells c t frozen
  | o => o
/-- A world for the witness: the settled one, the listed variables holding what their initialisers lay. -/
noncomputable def laidWorld (os : Os) : World :=
  { World.holding Tryz.prog os ⟨#[], #[], []⟩ with heap := (((World.holding Tryz.prog os ⟨#[], #[], []⟩).heap.modify 2 (laying #[.int .u8 0, .int .u8 1, .int .u8 28, .int .u8 2, .int .u8 29, .int .u8 14, .int .u8 24, .int .u8 3, .int .u8 30, .int .u8 22, .int .u8 20, .int .u8 15, .int .u8 25, .int .u8 17, .int .u8 4, .int .u8 8, .int .u8 31, .int .u8 27, .int .u8 13, .int .u8 23, .int .u8 21, .int .u8 19, .int .u8 16, .int .u8 7, .int .u8 26, .int .u8 12, .int .u8 18, .int .u8 6, .int .u8 11, .int .u8 5, .int .u8 10, .int .u8 9])).modify 3 (laying #[.int .u8 0, .int .u8 1, .int .u8 56, .int .u8 2, .int .u8 57, .int .u8 49, .int .u8 28, .int .u8 3, .int .u8 61, .int .u8 58, .int .u8 42, .int .u8 50, .int .u8 38, .int .u8 29, .int .u8 17, .int .u8 4, .int .u8 62, .int .u8 47, .int .u8 59, .int .u8 36, .int .u8 45, .int .u8 43, .int .u8 51, .int .u8 22, .int .u8 53, .int .u8 39, .int .u8 33, .int .u8 30, .int .u8 24, .int .u8 18, .int .u8 12, .int .u8 5, .int .u8 63, .int .u8 55, .int .u8 48, .int .u8 27, .int .u8 60, .int .u8 41, .int .u8 37, .int .u8 16, .int .u8 46, .int .u8 35, .int .u8 44, .int .u8 21, .int .u8 52, .int .u8 32, .int .u8 23, .int .u8 11, .int .u8 54, .int .u8 26, .int .u8 40, .int .u8 15, .int .u8 34, .int .u8 20, .int .u8 31, .int .u8 10, .int .u8 25, .int .u8 14, .int .u8 19, .int .u8 9, .int .u8 13, .int .u8 8, .int .u8 7, .int .u8 6])).modify 1 (laying #[.int .u64 1, .int .u64 10, .int .u64 100, .int .u64 1000, .int .u64 10000, .int .u64 100000, .int .u64 1000000, .int .u64 10000000, .int .u64 100000000, .int .u64 1000000000, .int .u64 10000000000, .int .u64 100000000000, .int .u64 1000000000000, .int .u64 10000000000000, .int .u64 100000000000000, .int .u64 1000000000000000, .int .u64 10000000000000000, .int .u64 100000000000000000, .int .u64 1000000000000000000, .int .u64 10000000000000000000]) }
theorem laid_met (os : Os) : laidMet Tryz.prog Rows.impFormsRow.laid ((laidWorld os).forCall (fun _ _ => 0) ⟨#[], #[], []⟩).memory :=
  laidMet_of_run' 8 (by kernel_rfl) (by kernel_rfl)
theorem reads (os : Os) {H : Type} (enc : TypeId × Value → H) : ∃ places, DataW.whole enc Tryz.prog ((laidWorld os).forCall (fun _ _ => 0) ⟨#[], #[], []⟩).memory Tryz.f3.params.toList Rows.impFormsSpec.vars false (#[] : Array Value).toList 8 = some ([], [], places) :=
  ⟨[], by kernel_rfl⟩

set_option maxRecDepth 100000 in
theorem lifted (os : Os) (started : os.Started) (H : Type) (enc : TypeId × Value → H) (F : Stop.Interp) :
    ReturnsInHanded {} Tryz.checked os 3 .any ((OpenSpec.ofChange Rows.impFormsSpec).preRow enc Tryz.prog Tryz.f3 Rows.impFormsRow.domain false Rows.impFormsRow.laid) (((OpenSpec.ofChange Rows.impFormsSpec).at F).post enc Tryz.prog Tryz.f3 false true false false) := by
  obtain ⟨places, hx⟩ := reads os enc
  refine returnsInHanded_of_row (C := Tryz.checked) (s := OpenSpec.ofChange Rows.impFormsSpec) own started (by kernel_rfl) Tryz.func3
    (witness_row_at (enc := enc) (C := Tryz.checked) false (laidWorld os) #[] rfl (by kernel_rfl) (by kernel_rfl) (by kernel_rfl)
      (OpenSpec.preRow_of_cond 8 hx (by kernel_rfl) (fun k hk => by cases hk) (by kernel_rfl) (laid_met os))) ?_
  intro W base args ds gs before hval hW _ _ _ hL _ _
  exact contract H enc W args ds gs before hW

theorem k2 : laidOutB Tryz.pinned.checked.prog = true := by kernel_rfl
theorem k3 : mapsRowed Tryz.pinned.checked.prog = true := by kernel_rfl
theorem k10 : (Rows.impFormsRow.inPlace == Tryz.pinned.checked.prog.inPlace 3) = true := by kernel_rfl
theorem k11 : (Rows.impFormsRow.unfollowed == Tryz.pinned.checked.prog.unfollowed 3) = true := by kernel_rfl
theorem k12 : (Rows.impFormsRow.recurses == Tryz.pinned.checked.prog.recurses 3) = true := by kernel_rfl
theorem k13 : (Rows.impFormsRow.named == Tryz.pinned.checked.prog.varsNamed 3) = true := by kernel_rfl
theorem k22 : (Rows.impFormsRow.plainKeys == Tryz.pinned.checked.prog.plainKeys) = true := by kernel_rfl
theorem k23b : Tryz.pinned.checked.prog.stopsHeard = true := by kernel_rfl
theorem k24 : Tryz.pinned.checked.prog.mayEnter = true := by kernel_rfl
theorem k24b : (Rows.impFormsRow.lifted == Tryz.pinned.checked.prog.liftsFinal) = true := by kernel_rfl
theorem k24c : (Tryz.pinned.checked.prog.make == some Rows.impFormsRow.make) = true := by kernel_rfl
theorem closed : joinedFacts Tryz.pinned.checked.prog 3 Tryz.f3 (OpenSpec.ofChange Rows.impFormsSpec).bare Rows.impFormsRow = true := by
  simp only [joinedFacts, Bool.and_eq_true]
  exact ⟨⟨⟨⟨⟨⟨⟨⟨⟨⟨⟨⟨⟨⟨⟨⟨⟨⟨⟨⟨⟨⟨⟨⟨⟨⟨⟨⟨⟨⟨⟨(by kernel_rfl), k2⟩, k3⟩, (by kernel_rfl)⟩, (by kernel_rfl)⟩, (by kernel_rfl)⟩, (by kernel_rfl)⟩, (by kernel_rfl)⟩, (by kernel_rfl)⟩, k10⟩, k11⟩, k12⟩, k13⟩, (by kernel_rfl)⟩, (by kernel_rfl)⟩, (by kernel_rfl)⟩, (by kernel_rfl)⟩, (by kernel_rfl)⟩, (by kernel_rfl)⟩, (by kernel_rfl)⟩, (by kernel_rfl)⟩, (by kernel_rfl)⟩, k22⟩, (by kernel_rfl)⟩, k23b⟩, k24⟩, k24b⟩, k24c⟩, (by kernel_rfl)⟩, (by kernel_rfl)⟩, (by kernel_rfl)⟩, (by kernel_rfl)⟩
theorem said : Rows.ImpFormsSaid :=
  OpenClaim.holds_of_cond 3 Tryz.f3 rfl rfl rfl rfl rfl rfl rfl ⟨rfl, rfl, rfl, rfl, rfl⟩ rfl rfl rfl rfl rfl (by kernel_rfl) Tryz.func3 closed
    (of_decide_eq_true (by kernel_rfl)) (by unfold Func.isWrapper; first | (rw [if_pos (by decide +kernel)]; kernel_rfl) | (rw [if_neg (by decide +kernel)]; exact ⟨rfl, rfl⟩))
    (fun os started H enc _ F => by rw [OpenClaim.pre_eq_preRow]; exact lifted os started H enc F)

theorem plain (f : FuncId) (fn : Func) (hf : Tryz.pinned.checked.prog.funcNamed "palimp/palimplaw24.ImpForms" = some f) (hfn : Tryz.pinned.checked.prog.funcs[f]? = some fn) :
    false = Tryz.pinned.checked.prog.looks [] ∧ ∀ (j : Nat) t, fn.params[j]? = some t → Tryz.pinned.checked.prog.wantsStandIn t = false := by
  obtain rfl : f = 3 := Option.some.inj ((show Tryz.prog.funcNamed "palimp/palimplaw24.ImpForms" = some 3 by kernel_rfl).symm.trans hf) |>.symm
  obtain rfl : fn = Tryz.f3 := (Option.some.inj (Tryz.func3.symm.trans hfn)).symm
  refine ⟨by kernel_rfl, fun j t ht => ?_⟩
  rw [Tryz.params3] at ht
  cases j <;> cases ht

theorem hw : Rows.impFormsRow.wfByText (OpenSpec.ofChange Rows.impFormsSpec) = true := by kernel_rfl
theorem hm : Tryz.pinned.checked.prog.mainIs = some (true, ("9b853c2b3cd1a2d9feafc4751354a042141dc0c12b1eecf13813eb28320f6158" : String).toList) := by kernel_rfl
theorem goes_none {P : Program} (h : P.funcs.any Func.goes = false) (f : FuncId) : P.goes f = false := by
  unfold Program.goes
  rw [h, Bool.and_false, Bool.or_false, List.any_eq_false]
  intro g _
  cases hf : P.funcs[g]? with
  | none => simp
  | some fn =>
    obtain ⟨hl, rfl⟩ := Array.getElem?_eq_some_iff.1 hf
    rw [Array.any_eq_false] at h
    simpa using h g hl
theorem no_go : Tryz.pinned.checked.prog.funcs.any Func.goes = false := by kernel_rfl
theorem hg : false = Rows.impFormsRow.goesBy Tryz.pinned.checked.prog := by
  unfold OpenClaim.goesBy Program.goesAt Program.goesFrom
  cases Tryz.pinned.checked.prog.funcNamed Rows.impFormsRow.func with
  | none => rfl
  | some f => exact (by rw [Option.any_some, goes_none no_go]; rfl)
theorem card : Rows.ImpFormsCardSaid :=
  Claim7.holds_tied_plain_at .later [] _ _ (true, "9b853c2b3cd1a2d9feafc4751354a042141dc0c12b1eecf13813eb28320f6158") _ said (fun _ h => by cases h) hw (fun _ h => by cases h) impForms_row_tie rfl ⟨rfl, rfl⟩ hm rfl plain hg
end Go.Proofs.YtmomgakmgafdeaaGreatDoor.impForms
