/-
  Tables: of functions, of oracles; what all of it says of the program.
-/
import Derived.Test.YtmomgakmgafdeaaGreatDoorPalMemo
namespace Go.Pal
open Go.RowKit

/-- A table of functions. -/
inductive Lt where
  | lf (k : Nat) (fn : FN)
  | nd (m : Nat) (l r : Lt)
noncomputable def Lt.get (t : Lt) : Nat → Option FN := Lt.rec (motive := fun _ => Nat → Option FN) (fun k fn n => bif Nat.beq n k then some fn else none) (fun m _ _ il ir n => bif Nat.blt n m then il n else ir n) t
def Lt.Ok (P : Program) (T : TT) : Lt → Prop
  | .lf k fn => ∃ aid, (P.funcs[k]?).bind (cF T aid) = some fn
  | .nd _ l r => l.Ok P T ∧ r.Ok P T
theorem Lt.fns {P : Program} {T : TT} : ∀ {t : Lt}, t.Ok P T → FnsOk P T t.get
  | .lf k g, h, f, fn, hf => by
    have hf' : (bif Nat.beq f k then some g else none) = some fn := hf
    cases hb : Nat.beq f k with
    | false => rw [hb] at hf'; cases hf'
    | true =>
      rw [hb] at hf'
      obtain rfl := nbeq_iff.1 hb
      cases hf'
      obtain ⟨aid, ha⟩ := h
      cases hp : P.funcs[f]? with
      | none => rw [hp] at ha; cases ha
      | some func => rw [hp] at ha; exact ⟨func, aid, rfl, ha⟩
  | .nd m l r, h, f, fn, hf => by
    have hf' : (bif Nat.blt f m then l.get f else r.get f) = some fn := hf
    cases hb : Nat.blt f m with
    | true => rw [hb] at hf'; exact Lt.fns h.1 f fn hf'
    | false => rw [hb] at hf'; exact Lt.fns h.2 f fn hf'

/-- A table of oracles. -/
abbrev OT := List (Nat × FT)
noncomputable def OT.get (t : OT) : Nat → Option FT := List.rec (motive := fun _ => Nat → Option FT) (fun _ => none) (fun p _ ih n => bif Nat.beq n p.1 then some p.2 else ih n) t
def OT.Ok (P : Program) : OT → Prop
  | [] => True
  | p :: r => OracOk P p.1 p.2 ∧ OT.Ok P r
theorem OT.oracs {P : Program} : ∀ {t : OT}, OT.Ok P t → ∀ f o, OT.get t f = some o → OracOk P f o
  | [], _, f, o, h => by cases h
  | p :: r, h, f, o, hf => by
    have hf' : (bif Nat.beq f p.1 then some p.2 else OT.get r f) = some o := hf
    cases hb : Nat.beq f p.1 with
    | true =>
      rw [hb] at hf'
      obtain rfl := nbeq_iff.1 hb
      cases hf'
      exact h.1
    | false => rw [hb] at hf'; exact OT.oracs h.2 f o hf'

/-- The evaluator's word on calls. -/
theorem ev_ok {P : Program} (hm : P.follows .mixedOrders = true) {t : Lt} (ht : t.Ok P (tiOf P)) {q : OT} (hq : OT.Ok P q) (n : Nat) : CallOk P (evAll (OT.get q) t.get n).2 :=
  (all_ok (fun _ _ h => tiOf_spec h) (drw_ok (fun _ _ h => tiOf_spec h) hm) (Lt.fns ht) (OT.oracs hq) n).2.2
end Go.Pal
