/-
  Which instructions come to a value, which write, which call.
-/
import Derived.Test.YtmomgakmgafdeaaGreatDoorPalStep
namespace Go.Pal
open Go.RowKit

/-- Nothing, or a value: the state as it was, or with one more object. -/
def isV (s : St) : R → Prop
  | .no => True
  | .val _ s' => s' = s ∨ ∃ l, s' = ⟨(s.nxt, l) :: s.heap, Nat.succ s.nxt, s.wd⟩
  | _ => False
/-- Nothing, or an effect. -/
def isE : R → Prop
  | .no => True
  | .eff _ _ _ => True
  | _ => False

section
variable {s : St}
theorem isV_cond {c : Bool} {r q : R} (h1 : isV s r) (h2 : isV s q) : isV s (bif c then r else q) := by cases c <;> assumption
theorem isV_orNo {α : Type} {o : Option α} {f : α → R} (h : ∀ a, isV s (f a)) : isV s (orNo o f) := by cases o <;> first | exact (by first | exact True.intro | exact Or.inl rfl) | exact h _
theorem isV_onNat {v : AV} {f : Nat → R} (h : ∀ a, isV s (f a)) : isV s (onNat v f) := by
  unfold onNat; split <;> first | exact (by first | exact True.intro | exact Or.inl rfl) | exact h _
theorem isV_optN {fr : Tr} {L : List AV} {o : Option X} {d : Nat} {f : Nat → R} (h : ∀ a, isV s (f a)) : isV s (optN fr L o d f) := by
  cases o
  · exact h _
  · exact isV_onNat h
theorem isV_lenA {v : AV} {f : Nat → R} (h : ∀ a, isV s (f a)) : isV s (lenA? v f) := by
  cases v <;> first | exact (by first | exact True.intro | exact Or.inl rfl) | exact h _
theorem isV_vInt {k : IntKind} {n : Int}  : isV s (vInt k n s) := by
  cases n <;> (rename_i m; cases m <;> exact (by first | exact True.intro | exact Or.inl rfl))
theorem isV_vBool {b : Bool}  : isV s (vBool b s) := by cases b <;> exact (by first | exact True.intro | exact Or.inl rfl)
theorem isV_mkV {g : Bool} {l : List AV}  : isV s (mkV g l s) := by
  cases g
  · cases l with
    | nil => exact (by first | exact True.intro | exact Or.inl rfl)
    | cons a l => cases l <;> exact (by first | exact True.intro | exact Or.inl rfl)
  · exact (by first | exact True.intro | exact Or.inl rfl)
theorem isV_newO {c : List AV} {v : Nat → AV} : isV s (newO s c fun id s => .val (v id) s) := isV_cond (.inr ⟨_, rfl⟩) (by first | exact True.intro | exact Or.inl rfl)
theorem isV_onNats {a b : Int} {f : Nat → Nat → R} (h : ∀ a b, isV s (f a b)) : isV s (onNats a b f) := by
  unfold onNats; split <;> first | exact (by first | exact True.intro | exact Or.inl rfl) | exact h _ _
theorem isV_binI {op : B2} {k k' : IntKind} {a b : Int}  : isV s (binI op k a k' b s) := by
  cases op <;> first
    | exact isV_cond isV_vInt (by first | exact True.intro | exact Or.inl rfl)
    | exact isV_cond isV_vBool (by first | exact True.intro | exact Or.inl rfl)
    | exact isV_cond (isV_cond (by first | exact True.intro | exact Or.inl rfl) isV_vInt) (by first | exact True.intro | exact Or.inl rfl)
    | exact isV_cond (isV_onNats fun _ _ => isV_vInt) (by first | exact True.intro | exact Or.inl rfl)
    | (show isV s (shl _ _ _ _); unfold shl; split <;> first | exact isV_vInt | exact (by first | exact True.intro | exact Or.inl rfl))
    | (show isV s (shr _ _ _ _); unfold shr; split <;> first | exact isV_vInt | exact (by first | exact True.intro | exact Or.inl rfl))
theorem isV_binS {op : B2} {a b : List Nat}  : isV s (binS op a b s) := by
  cases op <;> first
    | exact (by first | exact True.intro | exact Or.inl rfl)
    | exact isV_vBool
    | exact isV_cond (by first | exact True.intro | exact Or.inl rfl) (by first | exact True.intro | exact Or.inl rfl)
theorem isV_binR {op : B2} {x y : AV}  : isV s (binR op x y s) := by
  unfold binR
  split
  · split <;> first | exact isV_binI | exact (by first | exact True.intro | exact Or.inl rfl)
  · split <;> first | exact isV_binS | exact (by first | exact True.intro | exact Or.inl rfl)
  · exact (by first | exact True.intro | exact Or.inl rfl)
theorem isV_eqb {ne : Bool} {x y : AV}  : isV s (eqbR ne x y s) := by
  unfold eqbR; split
  · split <;> first | exact isV_vBool | exact (by first | exact True.intro | exact Or.inl rfl)
  · exact (by first | exact True.intro | exact Or.inl rfl)
theorem isV_eqs {ne : Bool} {x y : AV}  : isV s (eqsR ne x y s) := by
  unfold eqsR; split
  · split <;> first | exact isV_vBool | exact (by first | exact True.intro | exact Or.inl rfl)
  · exact (by first | exact True.intro | exact Or.inl rfl)
theorem isV_eqp {ne : Bool} {x y : AV}  : isV s (eqpR ne x y s) := by
  unfold eqpR; split
  · split <;> first | exact isV_vBool | exact (by first | exact True.intro | exact Or.inl rfl)
  · exact (by first | exact True.intro | exact Or.inl rfl)
theorem isV_eqa {sg : List Nat} {ne : Bool} {x y : AV}  : isV s (eqaR sg ne x y s) := by
  unfold eqaR; split
  · split
    · exact isV_cond (isV_orNo fun _ => isV_vBool) (by first | exact True.intro | exact Or.inl rfl)
    · exact (by first | exact True.intro | exact Or.inl rfl)
  · exact (by first | exact True.intro | exact Or.inl rfl)
theorem isV_load {v : AV} {n : Nat} {g : Bool} : isV s (loadR s v n g) := by
  unfold loadR; split
  · exact isV_orNo fun _ => isV_orNo fun _ => isV_mkV
  · exact (by first | exact True.intro | exact Or.inl rfl)
theorem isV_slc {fr : Tr} {L : List AV} {esz : Nat} {v : AV} {lo hi mx : Option X} : isV s (slcR fr L s esz v lo hi mx) := by
  cases v <;> try exact (by first | exact True.intro | exact Or.inl rfl)
  · cases mx
    · exact isV_cond (isV_optN fun _ => isV_optN fun _ => isV_cond (by first | exact True.intro | exact Or.inl rfl) (by first | exact True.intro | exact Or.inl rfl)) (by first | exact True.intro | exact Or.inl rfl)
    · exact isV_cond (by first | exact True.intro | exact Or.inl rfl) (by first | exact True.intro | exact Or.inl rfl)
  · rw [slcR_sl]; exact isV_cond (by first | exact True.intro | exact Or.inl rfl) <| isV_optN fun _ => isV_optN fun _ => isV_optN fun _ => isV_cond (by first | exact True.intro | exact Or.inl rfl) (by first | exact True.intro | exact Or.inl rfl)
  · rw [slcR_so]
    refine isV_orNo fun _ => isV_cond ?_ (by first | exact True.intro | exact Or.inl rfl)
    cases mx
    · exact isV_optN fun _ => isV_optN fun _ => isV_cond (by first | exact True.intro | exact Or.inl rfl) (by first | exact True.intro | exact Or.inl rfl)
    · refine isV_onNat fun _ => ?_
      cases hi
      · exact (by first | exact True.intro | exact Or.inl rfl)
      · exact isV_onNat fun _ => isV_optN fun _ => isV_cond (by first | exact True.intro | exact Or.inl rfl) (by first | exact True.intro | exact Or.inl rfl)
  · cases mx
    · rw [slcR_nil]; exact isV_cond (by first | exact True.intro | exact Or.inl rfl) <| isV_optN fun _ => isV_optN fun _ => isV_cond (by first | exact True.intro | exact Or.inl rfl) (by first | exact True.intro | exact Or.inl rfl)
    · exact isV_cond (by first | exact True.intro | exact Or.inl rfl) (by first | exact True.intro | exact Or.inl rfl)
theorem isV_b2s {v : AV} : isV s (b2sR s v) := by
  unfold b2sR; split <;> first | exact (by first | exact True.intro | exact Or.inl rfl) | exact isV_orNo fun _ => isV_orNo fun _ => isV_orNo fun _ => (by first | exact True.intro | exact Or.inl rfl)

end

theorem isE_cond {c : Bool} {r q : R} (h1 : isE r) (h2 : isE q) : isE (bif c then r else q) := by cases c <;> assumption
theorem isE_orNo {α : Type} {o : Option α} {f : α → R} (h : ∀ a, isE (f a)) : isE (orNo o f) := by cases o <;> first | exact trivial | exact h _
theorem isE_onNat {v : AV} {f : Nat → R} (h : ∀ a, isE (f a)) : isE (onNat v f) := by
  unfold onNat; split <;> first | exact trivial | exact h _
theorem isE_lenA {v : AV} {f : Nat → R} (h : ∀ a, isE (f a)) : isE (lenA? v f) := by
  cases v <;> first | exact trivial | exact h _
theorem isE_lenR {v : AV} {f : Nat → R} (h : ∀ a, isE (f a)) : isE (lenR v f) := by
  cases v <;> first | exact trivial | exact h _
theorem isE_newO {s : St} {c : List AV} {f : Nat → St → R} (h : ∀ a b, isE (f a b)) : isE (newO s c f) := isE_cond (h _ _) trivial
theorem isE_srcR {s : St} {esz n : Nat} {v : AV} {f : List AV → R} (h : ∀ a, isE (f a)) : isE (srcR s esz n v f) := by
  cases v <;> first | exact trivial | exact isE_cond (h _) trivial | exact isE_orNo fun _ => isE_orNo h
theorem isE_srcA {s : St} {esz n : Nat} {v : AV} {f : List AV → R} (h : ∀ a, isE (f a)) : isE (srcA s esz n v f) := by
  unfold srcA; split <;> first | exact trivial | exact isE_srcR h
theorem isE_app {s : St} {esz : Nat} {d : AV} {n : Nat} {nw : List AV} : isE (appR s esz d n nw) := by
  cases d <;> try exact trivial
  · rw [appR_sl]; exact isE_orNo fun _ => isE_cond (isE_orNo fun _ => isE_cond trivial trivial) (isE_orNo fun _ => isE_newO fun _ _ => trivial)
  · rw [appR_so]; exact isE_orNo fun _ => isE_cond (isE_cond (isE_orNo fun _ => isE_cond trivial trivial) (isE_orNo fun _ => isE_newO fun _ _ => trivial)) trivial
  · rw [appR_nil]; exact isE_cond trivial (isE_newO fun _ _ => trivial)

/-- Which instructions write or call. -/
def I.kind : I → Nat
  | .store .. => 1 | .app .. => 1 | .appz .. => 1 | .cpy .. => 1 | .clr .. => 1
  | .call .. => 2
  | _ => 0
theorem step_isV (i : I) (fr : Tr) (L : List AV) (s : St) (h : i.kind = 0) : isV s (step i fr L s) := by
  cases i <;> first
    | (cases h; done)
    | exact (by first | exact True.intro | exact Or.inl rfl)
    | exact isV_load
    | exact isV_binR
    | exact isV_eqb
    | exact isV_eqs
    | exact isV_eqp
    | exact isV_eqa
    | exact isV_slc
    | exact isV_b2s
    | exact isV_orNo fun _ => (by first | exact True.intro | exact Or.inl rfl)
    | exact isV_orNo fun _ => isV_newO
    | exact isV_cond (isV_orNo fun _ => isV_newO) (by first | exact True.intro | exact Or.inl rfl)
    | (show isV s (lenA? (rd _ fr L) fun n => R.val (.int .i64 (.ofNat n)) s); exact isV_lenA fun _ => (by first | exact True.intro | exact Or.inl rfl))
    | exact isV_onNat fun _ => isV_onNat fun _ => isV_cond (isV_newO) (by first | exact True.intro | exact Or.inl rfl)
    | (show isV s (pickR _ _ _ _); unfold pickR; split <;> exact (by first | exact True.intro | exact Or.inl rfl))
    | (show isV s (nilcR _ _); unfold nilcR; split <;> exact (by first | exact True.intro | exact Or.inl rfl))
    | (show isV s (notR _ _); unfold notR; split <;> first | exact isV_vBool | exact (by first | exact True.intro | exact Or.inl rfl))
    | (show isV s (convR _ _ _); unfold convR; split <;> first | exact isV_vInt | exact (by first | exact True.intro | exact Or.inl rfl))
    | (show isV s (s2bR _ _); unfold s2bR; split <;> first | exact isV_newO | exact (by first | exact True.intro | exact Or.inl rfl))
    | (show isV s (faR _ _ _); unfold faR; split <;> exact (by first | exact True.intro | exact Or.inl rfl))
    | (show isV s (fldR _ _ _ _ _); unfold fldR; split <;> first | exact isV_orNo fun _ => isV_mkV | exact (by first | exact True.intro | exact Or.inl rfl))
    | (show isV s (iaR _ _ _ _); unfold iaR; refine isV_onNat fun _ => ?_; split <;> first | exact isV_cond (by first | exact True.intro | exact Or.inl rfl) (by first | exact True.intro | exact Or.inl rfl) | exact (by first | exact True.intro | exact Or.inl rfl))
    | (show isV s (iapR _ _ _ _ _); unfold iapR; refine isV_onNat fun _ => ?_; split <;> first | exact isV_cond (by first | exact True.intro | exact Or.inl rfl) (by first | exact True.intro | exact Or.inl rfl) | exact (by first | exact True.intro | exact Or.inl rfl))
    | (show isV s (idxR _ _ _); unfold idxR; refine isV_onNat fun _ => ?_; split <;> first | exact isV_orNo fun _ => (by first | exact True.intro | exact Or.inl rfl) | exact (by first | exact True.intro | exact Or.inl rfl))
    | (show isV s (idxaR _ _ _ _ _ _); unfold idxaR; refine isV_onNat fun _ => ?_; split <;> first | exact isV_cond (isV_orNo fun _ => isV_mkV) (by first | exact True.intro | exact Or.inl rfl) | exact (by first | exact True.intro | exact Or.inl rfl))
    | (show isV s (extR _ _ _); unfold extR; split <;> first | exact isV_orNo fun _ => (by first | exact True.intro | exact Or.inl rfl) | exact (by first | exact True.intro | exact Or.inl rfl))
    | (show isV s (lensR _ _); unfold lensR; split <;> exact (by first | exact True.intro | exact Or.inl rfl))
    | (show isV s (capR _ _); unfold capR; split <;> exact (by first | exact True.intro | exact Or.inl rfl))
    | (show isV s (mnR _ _ _); unfold mnR; split <;> first | (split <;> first | exact isV_cond (by first | exact True.intro | exact Or.inl rfl) (by first | exact True.intro | exact Or.inl rfl) | exact (by first | exact True.intro | exact Or.inl rfl)) | exact (by first | exact True.intro | exact Or.inl rfl))
    | (show isV s (mxR _ _ _); unfold mxR; split <;> first | (split <;> first | exact isV_cond (by first | exact True.intro | exact Or.inl rfl) (by first | exact True.intro | exact Or.inl rfl) | exact (by first | exact True.intro | exact Or.inl rfl)) | exact (by first | exact True.intro | exact Or.inl rfl))
theorem step_isE (i : I) (fr : Tr) (L : List AV) (s : St) (h : i.kind = 1) : isE (step i fr L s) := by
  cases i <;> first
    | (cases h; done)
    | (show isE (storeR _ _ _ _); unfold storeR; split <;> first | exact isE_orNo fun _ => isE_orNo fun _ => isE_cond (isE_orNo fun _ => trivial) trivial | exact trivial)
    | (show isE (lenA? (rd _ fr L) fun n => small n (lenA? (rd _ fr L) fun k => small k (srcA s _ n (rd _ fr L) fun l => appR s _ (rd _ fr L) n l))); exact isE_lenA fun _ => isE_cond (isE_lenA fun _ => isE_cond (isE_srcA fun _ => isE_app) trivial) trivial)
    | exact isE_onNat fun _ => isE_cond (isE_lenA fun _ => isE_cond (isE_cond isE_app trivial) trivial) trivial
    | (show isE (cpyR _ _ _ _); unfold cpyR; refine isE_lenR fun _ => ?_; split <;> first | exact trivial | exact isE_srcR fun _ => isE_orNo fun _ => isE_orNo fun _ => isE_cond trivial trivial)
    | (show isE (clrR _ _ _ _); unfold clrR; split <;> first | exact trivial | exact isE_orNo fun _ => isE_orNo fun _ => isE_cond trivial trivial)
theorem step_call (f : X) (args : List X) (fr : Tr) (L : List AV) (s : St) : (∃ g cs, rd f fr L = .fn g cs ∧ step (.call f args) fr L s = .call g (app (rds args fr L) cs) s) ∨ step (.call f args) fr L s = .no := by
  show (∃ g cs, rd f fr L = .fn g cs ∧ callR s (rd f fr L) (rds args fr L) = _) ∨ callR s (rd f fr L) (rds args fr L) = .no
  cases rd f fr L <;> first | exact .inr rfl | exact .inl ⟨_, _, rfl, rfl⟩
end Go.Pal
