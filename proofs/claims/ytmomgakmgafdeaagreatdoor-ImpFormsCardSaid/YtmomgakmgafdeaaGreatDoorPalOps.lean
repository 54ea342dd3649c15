/-
  The other operations that touch no memory, or only read.
-/
import Derived.Test.YtmomgakmgafdeaaGreatDoorPalEq
namespace Go.Pal
open Go.RowKit

theorem onNat_of {v : AV} {f : Nat → R} {r : R} (h : onNat v f = r) (hr : r ≠ .no) : ∃ k n, v = .int k (Int.ofNat n) ∧ f n = r := by
  unfold onNat at h
  split at h
  · exact ⟨_, _, rfl, h⟩
  · exact absurd h.symm hr
theorem orNo_of {α : Type} {o : Option α} {f : α → R} {r : R} (h : orNo o f = r) (hr : r ≠ .no) : ∃ a, o = some a ∧ f a = r := by
  cases o with
  | none => exact absurd h.symm hr
  | some a => exact ⟨a, rfl, h⟩
theorem cond_of {c : Bool} {q r : R} (h : (bif c then q else .no) = r) (hr : r ≠ .no) : c = true ∧ q = r := by
  cases c with
  | true => exact ⟨rfl, h⟩
  | false => exact absurd h.symm hr
theorem and3 {a b : Bool} (h : (a && b) = true) : a = true ∧ b = true := by simpa using h

section
variable {P : Program} {m : LM} {K : Nat → Prop} {w : World} {t : TypeId} {ti : TI}

/-- In this world: a value, and the world as it was. -/
def Here (P : Program) (w : World) (x : Sem Value) (m : LM) (K : Nat → Prop) (v : AV) : Prop := ∃ u, x.run P w = .ok u w ∧ VR m K u v
theorem Gives.here {x : Sem Value} {v : AV} (h : Gives P x m K v) : Here P w x m K v := let ⟨u, h1, h2⟩ := h; ⟨u, h1 w, h2⟩

theorem neg_eq (ne b : Bool) : neg ne b = (if ne then !b else b) := by cases ne <;> rfl

theorem eqb_ok (hT : TIr P t ti) (hk : ti.k = .bool) (x y : Operand) (ne : Bool) {u v : Value} {a b : AV} (hu : VR m K u a) (hv : VR m K v b) {s s' : St} {c : AV} (h : eqbR ne a b s = .val c s') :
    s' = s ∧ Gives P (do eqGuard (if ne then .neq else .eql) t x y u v; binOp (if ne then .neq else .eql) t u v) m K c := by
  cases hu <;> first | (cases h; done) | skip
  cases hv <;> first | (cases h; done) | skip
  rename_i p q
  obtain ⟨rfl, rfl⟩ := vBool_of (show vBool (neg ne (Bool.casesOn p (not q) q)) s = _ from h)
  refine ⟨rfl, .bool (neg ne (Bool.casesOn p (not q) q)), fun w => ?_, .bool _⟩
  cases ne
  · simp only [Bool.false_eq_true, if_false, eqGuard_at_bool]
    simp [binOp, run_equal_bool w t p q (hT.bool hk)]
    cases p <;> cases q <;> rfl
  · simp only [if_true, eqGuard_at_bool]
    simp [binOp, run_equal_bool w t p q (hT.bool hk)]
    cases p <;> cases q <;> rfl

theorem equal_slice_nil (w : World) (d : Nat) {t e : TypeId} (a : Option Addr) (l c : Nat) (h : P.underlying t = some (.slice e)) : (Op.equalIn (d + 1) t (.slice a l c) (.slice none 0 0)).run P w = .ok a.isNone w := by
  cases a <;> simp [Op.equalIn, run_underlying h]
theorem equal_pointer_nil (w : World) (d : Nat) {t e : TypeId} (a : Option Addr) (h : P.underlying t = some (.pointer e)) : (Op.equalIn (d + 1) t (.pointer a) (.pointer none)).run P w = .ok a.isNone w := by
  cases a <;> simp [Op.equalIn, run_underlying h]
theorem eqs_ok (hT : TIr P t ti) (hk : ti.k = .slice) (x y : Operand) (ne : Bool) {u v : Value} {a b : AV} (hu : VR m K u a) (hv : VR m K v b) {s s' : St} {c : AV} (h : eqsR ne a b s = .val c s') :
    s' = s ∧ Gives P (do eqGuard (if ne then .neq else .eql) t x y u v; binOp (if ne then .neq else .eql) t u v) m K c := by
  cases hv <;> first | (cases h; done) | skip
  have q : ∀ (p : Option Addr) (l k : Nat) (w : World), (Op.equal t (.slice p l k) (.slice none 0 0)).run P w = .ok p.isNone w := fun p l k w => equal_slice_nil w 9999 p l k (hT.slice hk)
  have key : ∀ (p : Option Addr) (l k : Nat) (w : World), (do eqGuard (if ne then BinOp.neq else .eql) t x y (.slice p l k) (.slice none 0 0); binOp (if ne then BinOp.neq else .eql) t (.slice p l k) (.slice none 0 0)).run P w = .ok (.bool (neg ne p.isNone)) w := by
    intro p l k w
    cases ne
    · simp only [Bool.false_eq_true, if_false, eqGuard_at_slice]
      simp [binOp, q, neg_eq]
    · simp only [if_true, eqGuard_at_slice]
      simp [binOp, q, neg_eq]
  cases hu <;> first | (cases h; done) | skip
  all_goals
    obtain ⟨rfl, rfl⟩ := vBool_of (show vBool (neg ne _) s = _ from h)
    exact ⟨rfl, _, key _ _ _, .bool _⟩

theorem eqp_ok (hT : TIr P t ti) (hk : ti.k = .ptr) (x y : Operand) (ne : Bool) {u v : Value} {a b : AV} (hu : VR m K u a) (hv : VR m K v b) {s s' : St} {c : AV} (h : eqpR ne a b s = .val c s') :
    s' = s ∧ Gives P (do eqGuard (if ne then .neq else .eql) t x y u v; binOp (if ne then .neq else .eql) t u v) m K c := by
  cases hv <;> first | (cases h; done) | skip
  obtain ⟨e, hund⟩ := hT.ptr hk
  have key : ∀ (p : Option Addr) (w : World), (do eqGuard (if ne then BinOp.neq else .eql) t x y (.pointer p) (.pointer none); binOp (if ne then BinOp.neq else .eql) t (.pointer p) (.pointer none)).run P w = .ok (.bool (neg ne p.isNone)) w := by
    intro p w
    have q : (Op.equal t (.pointer p) (.pointer none)).run P w = .ok p.isNone w := equal_pointer_nil w 9999 p hund
    cases ne
    · simp only [Bool.false_eq_true, if_false, eqGuard_at_pointer]
      simp [binOp, q, neg_eq]
    · simp only [if_true, eqGuard_at_pointer]
      simp [binOp, q, neg_eq]
  cases hu <;> first | (cases h; done) | skip
  all_goals
    obtain ⟨rfl, rfl⟩ := vBool_of (show vBool (neg ne _) s = _ from h)
    exact ⟨rfl, _, key _, .bool _⟩

theorem not_ok {u : Value} {a : AV} (hu : VR m K u a) {s s' : St} {c : AV} (h : notR s a = .val c s') : s' = s ∧ Gives P (Op.unary .not u) m K c := by
  cases hu <;> first | (cases h; done) | skip
  rename_i b
  obtain ⟨rfl, rfl⟩ := vBool_of (show vBool (not b) s = _ from h)
  exact ⟨rfl, _, fun w => by simp [Op.unary], .bool _⟩

theorem conv_ok {t' : TypeId} {tj : TI} (hT : TIr P t ti) (hT' : TIr P t' tj) {k : IntKind} (hk : tj.k = .int k) {u : Value} {a : AV} (hu : VR m K u a) {s s' : St} {c : AV} (h : convR s k a = .val c s') :
    s' = s ∧ Gives P (convert t t' u) m K c := by
  cases hu <;> first | (cases h; done) | skip
  rename_i k0 n
  obtain ⟨rfl, rfl⟩ := vInt_of (show vInt k (wr k n) s = _ from h)
  obtain ⟨u0, hu0⟩ := hT.und
  refine ⟨rfl, .int k (k.wrap n), fun w => ?_, by rw [wr_eq]; exact .int _ _⟩
  simp [convert, run_underlying hu0, run_underlying (hT'.int hk), Conv.intToInt]

theorem mov_string {t' : TypeId} {tj : TI} (hT : TIr P t ti) (hT' : TIr P t' tj) (hk : ti.k = .string) (hk' : tj.k = .string) {u : Value} {a : AV} (hu : VR m K u a) (hs : ∃ l, a = .str l) : Gives P (convert t t' u) m K a := by
  obtain ⟨l, rfl⟩ := hs
  cases hu
  refine ⟨_, fun w => ?_, .str _ _ ‹_›⟩
  simp [convert, run_underlying (hT.string hk), run_underlying (hT'.string hk')]

/-! ### Places -/
theorem fa_ok (hT : TIr P t ti) (hk : ti.k = .struct) {f : Nat} {g : Nat × Nat × Bool} (hf : ti.fs[f]? = some g) (hg : 0 < g.2.1) {u : Value} {a : AV} (hu : VR m K u a) {s s' : St} {c : AV} (h : faR s g.1 a = .val c s') :
    s' = s ∧ Gives P (Instr.fieldAt t u f) m K c := by
  cases hu <;> first | (cases h; done) | skip
  rename_i id off hid
  cases h
  obtain ⟨fs, hund, hfs⟩ := hT.struct hk
  rw [hfs] at hf
  simp only [List.getElem?_map, Option.map_eq_some_iff] at hf
  obtain ⟨fd, hfd, rfl⟩ := hf
  have hfd' : fs[f]? = some fd := by simpa using hfd
  simp only at hg
  have hi : ∃ i, P.info? fd.type = some i ∧ i.size ≠ 0 := by
    unfold Program.cellsOf at hg
    cases hi : P.info? fd.type with
    | none => rw [hi] at hg; simp at hg
    | some i => rw [hi] at hg; simp at hg; exact ⟨i, rfl, by omega⟩
  obtain ⟨i, hi, hne⟩ := hi
  refine ⟨rfl, _, fun w => ?_, by rw [show off + fd.offset = off + fd.offset from rfl]; exact .ptr id (off + fd.offset) hid⟩
  simp only [Instr.fieldAt, Sem.run_bind, run_underlying hund, Result.andThen_ok, hfd', Instr.sureAddr, fieldPlace, sizeOf_run fd.type hi, Sem.run_pure, hne, if_false]
  simp [Addr.add_lit, Nat.add_assoc]

/-- A part of a struct's or an array's cells. -/
theorem part_ok {t : TypeId} (hund : (P.underlying t).isSome) {i : TypeInfo} (hi : P.info? t = some i) {cs : List Value} {l l' : List AV} (hv : VRL m K cs l) {off : Nat} (hc : cellsAt l off i.size = some l') {s s' : St} {b : AV} (hm : mkV (aggT P t) l' s = .val b s') :
    s' = s ∧ Gives P (part t ⟨cs⟩ off) m K b := by
  obtain ⟨h1, h2⟩ := cellsAt_spec hc
  obtain ⟨rfl, hm'⟩ := mkV_spec hm
  rcases hm' with ⟨hg, rfl⟩ | ⟨hg, rfl⟩
  · refine ⟨rfl, .agg ⟨(cs.drop off).take i.size⟩, fun w => ?_, .agg _ _ (VRL.of_get ?_ fun j a ha => ?_)⟩
    · unfold part
      rw [Sem.run_bind, isAgg_run t hund]
      simp only [Result.andThen_ok, hg, if_true, Sem.run_bind, sizeOf_run t hi, Sem.run_pure]
      congr 2
      apply Array.ext'
      simp [List.extract_eq_take_drop]
    · rw [h1]
      by_cases hz : i.size = 0
      · simp [hz]
      · have e := h2 (i.size - 1) (by omega)
        have : ∃ x, l'[i.size - 1]? = some x := ⟨l'[i.size - 1]'(by omega), List.getElem?_eq_getElem _⟩
        obtain ⟨x, hx⟩ := this
        rw [hx] at e
        have := (List.getElem?_eq_some_iff.1 e).1
        have := hv.length
        simp; omega
    · have hj : j < i.size := by have := (List.getElem?_eq_some_iff.1 ha).1; omega
      obtain ⟨v, g1, g2⟩ := hv.get (off + j) a (by rw [h2 j hj, ha])
      exact ⟨v, by rw [List.getElem?_take_of_lt hj, List.getElem?_drop]; exact g1, g2⟩
  · have hsz : i.size = 1 := by simpa using h1.symm
    have e := h2 0 (by omega)
    obtain ⟨v, g1, g2⟩ := hv.get (off + 0) b (by rw [e]; rfl)
    refine ⟨rfl, v, fun w => ?_, g2⟩
    unfold part
    rw [Sem.run_bind, isAgg_run t hund]
    simp only [Result.andThen_ok, hg, Bool.false_eq_true, if_false]
    have e2 : (⟨cs⟩ : Array Value)[off]? = some v := by simpa using g1
    rw [e2]
    rfl

theorem fld_ok (hT : TIr P t ti) (hk : ti.k = .struct) {f : Nat} {g : Nat × Nat × Bool} (hf : ti.fs[f]? = some g) {u : Value} {a : AV} (hu : VR m K u a) (hsz : g.2.2 = true ∨ g.2.1 = 1) {s s' : St} {c : AV} (h : fldR s g.1 g.2.1 g.2.2 a = .val c s') :
    s' = s ∧ Gives P (Instr.field t u f) m K c := by
  cases hu <;> first | (cases h; done) | skip
  rename_i cs l hv
  obtain ⟨l', h1, h2⟩ := orNo_of (show orNo (cellsAt l g.1 g.2.1) (fun l => mkV g.2.2 l s) = _ from h) (by simp)
  obtain ⟨fs, hund, hfs⟩ := hT.struct hk
  have hall := hT.fields fs hund
  rw [hfs] at hf
  simp only [List.getElem?_map, Option.map_eq_some_iff] at hf
  obtain ⟨fd, hfd, rfl⟩ := hf
  have hfd' : fs[f]? = some fd := by simpa using hfd
  have hund' := hall fd (List.mem_of_getElem? hfd)
  obtain ⟨i, hi⟩ := info_of_und hund'
  have hc : P.cellsOf fd.type = i.size := by simp [Program.cellsOf, hi]
  simp only at h1 h2
  rw [hc] at h1
  obtain ⟨e, u, g1, g2⟩ := part_ok hund' hi hv h1 h2
  refine ⟨e, u, fun w => ?_, g2⟩
  simp only [Instr.field, Sem.run_bind, run_underlying hund, Result.andThen_ok, hfd', asAgg, Sem.run_pure, g1]

theorem ia_ok (hT : TIr P t ti) (hk : ti.k = .slice) {te : TI} (hE : TIr P ti.elem te) {u v : Value} {a b : AV} (hu : VR m K u a) (hv : VR m K v b) {s s' : St} {c : AV} (h : iaR s te.size a b = .val c s') :
    s' = s ∧ Gives P (Instr.indexAt t u v) m K c := by
  obtain ⟨k, n, rfl, h1⟩ := onNat_of h (by simp)
  cases hv
  obtain ⟨i, hi, hsz, _, _⟩ := hE.info
  have key : ∀ (blk base off len cap : Nat) (w : World), n < len → (Instr.indexAt t (.slice (some ⟨blk, base + off, none⟩) len cap) (.int k (Int.ofNat n))).run P w = .ok (.pointer (some ⟨blk, base + (off + n * te.size), none⟩)) w := by
    intro blk base off len cap w hlt
    have e1 : (0 : Int) ≤ Int.ofNat n ∧ Int.ofNat n < (len : Int) := ⟨by simp, by simp; exact hlt⟩
    simp only [Instr.indexAt, asIntOf, Sem.run_bind, run_underlying (hT.slice hk), Result.andThen_ok, Sem.run_pure]
    rw [if_pos e1]
    simp only [Sem.run_bind, sizeOf_run ti.elem hi, Result.andThen_ok, Sem.run_pure, hsz, Addr.add_lit]
    congr 4
    simp; omega
  cases hu <;> first | (cases h1; done) | skip
  · rename_i id off len cap hid
    obtain ⟨h2, h3⟩ := cond_no h1
    cases h3
    exact ⟨rfl, _, fun w => key _ _ _ _ _ w (nblt_iff.1 h2), .ptr id _ hid⟩
  · rename_i id off len esz cap hid hz ht
    obtain ⟨h2, h3⟩ := cond_no h1
    cases h3
    exact ⟨rfl, _, fun w => key _ _ _ _ _ w (nblt_iff.1 h2), .ptr id _ hid⟩

theorem iap_ok (hT : TIr P t ti) {n : Nat} (hk : ti.k = .array n) {te : TI} (hE : TIr P ti.elem te) {u v : Value} {a b : AV} (hu : VR m K u a) (hv : VR m K v b) {s s' : St} {c : AV} (h : iapR s n te.size a b = .val c s') :
    s' = s ∧ Gives P (Instr.indexAt t u v) m K c := by
  obtain ⟨k, j, rfl, h1⟩ := onNat_of h (by simp)
  cases hv
  obtain ⟨i, hi, hsz, _, _⟩ := hE.info
  cases hu <;> first | (cases h1; done) | skip
  rename_i id off hid
  obtain ⟨h2, h3⟩ := cond_no h1
  cases h3
  have hlt := nblt_iff.1 h2
  refine ⟨rfl, _, fun w => ?_, .ptr id _ hid⟩
  have e1 : (0 : Int) ≤ Int.ofNat j ∧ Int.ofNat j < (n : Int) := ⟨by simp, by simp; exact hlt⟩
  simp only [Instr.indexAt, asIntOf, Sem.run_bind, run_underlying (hT.array hk), Result.andThen_ok, Sem.run_pure, Instr.sureAddr]
  rw [if_pos e1]
  simp only [Sem.run_bind, sizeOf_run ti.elem hi, Result.andThen_ok, Sem.run_pure, hsz, Addr.add_lit]
  congr 4
  simp; omega

theorem idx_ok (hT : TIr P t ti) (hk : ti.k = .string) {u v : Value} {a b : AV} (hu : VR m K u a) (hv : VR m K v b) {s s' : St} {c : AV} (h : idxR s a b = .val c s') :
    s' = s ∧ Gives P (Instr.index t u v) m K c := by
  obtain ⟨k, j, rfl, h1⟩ := onNat_of h (by simp)
  cases hv
  cases hu <;> first | (cases h1; done) | skip
  rename_i str l hl
  obtain ⟨d, h2, h3⟩ := orNo_of h1 (by simp)
  cases h3
  rw [nthN_eq, ← hl] at h2
  simp only [List.getElem?_map, Option.map_eq_some_iff] at h2
  obtain ⟨q, hq, rfl⟩ := h2
  refine ⟨rfl, .int .u8 (q.toNat : Int), fun w => ?_, .int _ _⟩
  have hlt : j < str.size := by
    have := (List.getElem?_eq_some_iff.1 hq).1
    simpa using this
  have e : str[j]? = some q := by
    have := (List.getElem?_eq_some_iff.1 hq).2
    rw [getElem?_pos str j hlt]
    congr 1
  simp only [Instr.index, asIntOf, Sem.run_bind, run_underlying (hT.string hk), Result.andThen_ok, Sem.run_pure]
  simp [e]

theorem idxa_ok (hT : TIr P t ti) {n : Nat} (hk : ti.k = .array n) {te : TI} (hE : TIr P ti.elem te) {u v : Value} {a b : AV} (hu : VR m K u a) (hv : VR m K v b) {s s' : St} {c : AV} (h : idxaR s n te.size te.agg a b = .val c s') :
    s' = s ∧ Gives P (Instr.index t u v) m K c := by
  obtain ⟨k, j, rfl, h1⟩ := onNat_of h (by simp)
  cases hv
  cases hu <;> first | (cases h1; done) | skip
  rename_i cs l hv
  obtain ⟨h2, h3⟩ := cond_no h1
  obtain ⟨l', h4, h5⟩ := orNo_of h3 (by simp)
  obtain ⟨i, hi, hsz, _, _⟩ := hE.info
  obtain ⟨uu, hund⟩ := hE.und
  have hlt := nblt_iff.1 h2
  rw [← hsz] at h4
  rw [← hE.aggEq] at h5
  obtain ⟨e, x, g1, g2⟩ := part_ok (by simp [hund]) hi hv h4 h5
  refine ⟨e, x, fun w => ?_, g2⟩
  have e1 : (0 : Int) ≤ Int.ofNat j ∧ Int.ofNat j < (n : Int) := ⟨by simp, by simp; exact hlt⟩
  simp only [Instr.index, asIntOf, Sem.run_bind, run_underlying (hT.array hk), Result.andThen_ok, Sem.run_pure]
  rw [if_pos e1]
  simp only [Sem.run_bind, sizeOf_run ti.elem hi, Result.andThen_ok]
  exact g1 w

/-! ### Small ones -/
theorem pick_ok {u v x : Value} {a b c : AV} (hu : VR m K u a) (hv : VR m K v b) (hx : VR m K x c) {s s' : St} {d : AV} (h : pickR s a b c = .val d s') :
    s' = s ∧ Gives P (do if (← asBool u) then pure v else pure x) m K d := by
  cases hu <;> first | (cases h; done) | skip
  rename_i t
  cases t
  · cases h; exact ⟨rfl, x, fun w => by simp [asBool], hx⟩
  · cases h; exact ⟨rfl, v, fun w => by simp [asBool], hv⟩
theorem ext_ok {u : Value} {a : AV} {i : Nat} (hu : VR m K u a) {s s' : St} {d : AV} (h : extR s a i = .val d s') : s' = s ∧ Gives P (Instr.extract u i) m K d := by
  cases hu <;> first | (cases h; done) | skip
  rename_i cs l hv
  obtain ⟨v, h1, h2⟩ := orNo_of (show orNo (nthO l i) (fun v => R.val v s) = _ from h) (by simp)
  cases h2
  rw [nthO_eq] at h1
  obtain ⟨x, g1, g2⟩ := hv.get i _ h1
  refine ⟨rfl, x, fun w => ?_, g2⟩
  have e : (⟨cs⟩ : Array Value)[i]? = some x := by simpa using g1
  simp [Instr.extract, e]
theorem lenV_ok {u : Value} {a : AV} (hu : VR m K u a) {f : Nat → R} {r : R} (h : lenR a f = r) (hr : r ≠ .no) : ∃ n, f n = r ∧ (∀ w, (Builtin.lenOf u).run P w = .ok n w) ∧ ((∃ s, u = .string s ∧ s.size = n) ∨ (∃ b c, u = .slice b n c)) := by
  cases hu <;> first | (exact absurd h.symm hr) | skip
  · rename_i str l hl
    refine ⟨str.size, ?_, fun w => rfl, .inl ⟨str, rfl, rfl⟩⟩
    rw [← h]
    show f str.size = f (lenN l)
    rw [lenN_eq, ← hl, List.length_map, Array.length_toList]
    rfl
  · exact ⟨_, h, fun w => rfl, .inr ⟨_, _, rfl⟩⟩
  · exact ⟨_, h, fun w => rfl, .inr ⟨_, _, rfl⟩⟩
  · exact ⟨0, h, fun w => rfl, .inr ⟨_, _, rfl⟩⟩
theorem lenA_ok {u : Value} {a : AV} (hu : VR m K u a) {f : Nat → R} {r : R} (h : lenA? a f = r) (hr : r ≠ .no) : ∃ n b c, f n = r ∧ u = .slice b n c := by
  cases hu <;> first | (exact absurd h.symm hr) | exact ⟨_, _, _, h, rfl⟩
theorem len_ok (hT : TIr P t ti) (hk : ti.k = .slice) {tys : Array TypeId} (ht : tys[0]? = some t) (ty : TypeId) {u : Value} {a : AV} (hu : VR m K u a) {s s' : St} {d : AV} (h : (lenA? a fun n => R.val (.int .i64 (.ofNat n)) s) = .val d s') :
    s' = s ∧ Gives P (Builtin.len_ tys ty #[u]) m K d := by
  obtain ⟨n, b, c, h1, rfl⟩ := lenA_ok hu h (by simp)
  cases h1
  exact ⟨rfl, .int .i64 (n : Int), fun w => by simp [Builtin.len_, ht, run_underlying (hT.slice hk), goInt], .int _ _⟩
theorem lens_ok (hT : TIr P t ti) (hk : ti.k = .string) {tys : Array TypeId} (ht : tys[0]? = some t) (ty : TypeId) {u : Value} {a : AV} (hu : VR m K u a) {s s' : St} {d : AV} (h : lensR s a = .val d s') :
    s' = s ∧ Gives P (Builtin.len_ tys ty #[u]) m K d := by
  cases hu <;> first | (cases h; done) | skip
  rename_i str l hl
  cases h
  have e : lenN l = str.size := by rw [lenN_eq, ← hl, List.length_map, Array.length_toList]; rfl
  exact ⟨rfl, .int .i64 (str.size : Int), fun w => by simp [Builtin.len_, ht, run_underlying (hT.string hk), goInt], by rw [e]; exact .int _ _⟩
theorem cap_ok (hT : TIr P t ti) (hk : ti.k = .slice) {tys : Array TypeId} (ht : tys[0]? = some t) (ty : TypeId) {u : Value} {a : AV} (hu : VR m K u a) {s s' : St} {d : AV} (h : capR s a = .val d s') :
    s' = s ∧ Gives P (Builtin.cap_ tys ty #[u]) m K d := by
  cases hu <;> first | (cases h; done) | skip
  all_goals
    cases h
    exact ⟨rfl, _, fun w => by simp [Builtin.cap_, ht, run_underlying (hT.slice hk), goInt], .int _ _⟩
theorem mn_ok (tys : Array TypeId) (ty : TypeId) {u v : Value} {a b : AV} (hu : VR m K u a) (hv : VR m K v b) {s s' : St} {d : AV} (h : mnR s a b = .val d s') : s' = s ∧ Gives P (Builtin.min_ tys ty #[u, v]) m K d := by
  cases hu <;> first | (cases h; done) | skip
  cases hv <;> first | (cases h; done) | skip
  rename_i k x k' y
  have h' : (bif ltI y x then R.val (.int k y) s else R.val (.int k x) s) = .val d s' := h
  rw [ltI_eq] at h'
  by_cases e : y < x
  · simp [e] at h'
    obtain ⟨rfl, rfl⟩ := h'
    exact ⟨rfl, _, fun w => by simp [Builtin.min_, Builtin.min2, e], .int _ _⟩
  · simp [e] at h'
    obtain ⟨rfl, rfl⟩ := h'
    exact ⟨rfl, _, fun w => by simp [Builtin.min_, Builtin.min2, e], .int _ _⟩
theorem mx_ok (tys : Array TypeId) (ty : TypeId) {u v : Value} {a b : AV} (hu : VR m K u a) (hv : VR m K v b) {s s' : St} {d : AV} (h : mxR s a b = .val d s') : s' = s ∧ Gives P (Builtin.max_ tys ty #[u, v]) m K d := by
  cases hu <;> first | (cases h; done) | skip
  cases hv <;> first | (cases h; done) | skip
  rename_i k x k' y
  have h' : (bif ltI x y then R.val (.int k y) s else R.val (.int k x) s) = .val d s' := h
  rw [ltI_eq] at h'
  by_cases e : x < y
  · simp [e] at h'
    obtain ⟨rfl, rfl⟩ := h'
    exact ⟨rfl, _, fun w => by simp [Builtin.max_, Builtin.max2, e], .int _ _⟩
  · simp [e] at h'
    obtain ⟨rfl, rfl⟩ := h'
    exact ⟨rfl, _, fun w => by simp [Builtin.max_, Builtin.max2, e], .int _ _⟩
end
end Go.Pal
