/-
  Each operation of the model's, at values that the small code speaks of: what it comes to.
-/
import Derived.Test.YtmomgakmgafdeaaGreatDoorPalHeap
namespace Go.Pal
open Go.RowKit

/-- What a row of the table says of a type. -/
structure TIr (P : Program) (t : TypeId) (ti : TI) : Prop where
  ex : ∃ i u, P.info? t = some i ∧ P.underlying t = some u ∧ ti = {
      size := i.size, by_ := i.bytes, agg := aggT P t, z := i.zero.map absV,
      fs := (match u with | .struct fs => fs.toList.map fun f => (f.offset, P.cellsOf f.type, aggT P f.type) | _ => []),
      elem := (match u with | .slice e => e | .array _ e => e | .pointer e => e | _ => 0),
      k := (match u with | .struct _ => .struct | .array n _ => .array n | .slice _ => .slice | .string => .string | .int k => .int k | .bool => .bool | .pointer _ => .ptr | _ => .other),
      plain := bif P.eqGuardType P.depth t then none else sigT P 30 t }
  fields : ∀ fs, P.underlying t = some (.struct fs) → ∀ f ∈ fs.toList, (P.underlying f.type).isSome

theorem tiOf_spec {P : Program} {t : TypeId} {ti : TI} (h : tiOf P t = some ti) : TIr P t ti := by
  unfold tiOf at h
  split at h
  · rename_i i u hi hu
    cases hc : fieldsOk P u with
    | false => rw [hc] at h; cases h
    | true =>
      rw [hc] at h
      refine ⟨⟨i, u, hi, hu, (Option.some.inj h).symm⟩, fun fs hf f hm => ?_⟩
      rw [hu] at hf
      cases hf
      exact List.all_eq_true.1 hc f hm
  · cases h

section
variable {P : Program} {t : TypeId} {ti : TI}
theorem TIr.slice (x : TIr P t ti) (h : ti.k = .slice) : P.underlying t = some (.slice ti.elem) := by
  obtain ⟨i, u, hi, hu, rfl⟩ := x.ex
  cases u <;> simp at h ⊢ <;> exact hu
theorem TIr.array (x : TIr P t ti) {n : Nat} (h : ti.k = .array n) : P.underlying t = some (.array n ti.elem) := by
  obtain ⟨i, u, hi, hu, rfl⟩ := x.ex
  cases u <;> simp at h ⊢
  subst h; exact hu
theorem TIr.string (x : TIr P t ti) (h : ti.k = .string) : P.underlying t = some .string := by
  obtain ⟨i, u, hi, hu, rfl⟩ := x.ex
  cases u <;> simp at h ⊢ <;> exact hu
theorem TIr.int (x : TIr P t ti) {k : IntKind} (h : ti.k = .int k) : P.underlying t = some (.int k) := by
  obtain ⟨i, u, hi, hu, rfl⟩ := x.ex
  cases u <;> simp at h ⊢
  subst h; exact hu
theorem TIr.bool (x : TIr P t ti) (h : ti.k = .bool) : P.underlying t = some .bool := by
  obtain ⟨i, u, hi, hu, rfl⟩ := x.ex
  cases u <;> simp at h ⊢ <;> exact hu
theorem TIr.ptr (x : TIr P t ti) (h : ti.k = .ptr) : ∃ e, P.underlying t = some (.pointer e) := by
  obtain ⟨i, u, hi, hu, rfl⟩ := x.ex
  cases u <;> simp at h ⊢ <;> exact ⟨_, hu⟩
theorem TIr.struct (x : TIr P t ti) (h : ti.k = .struct) : ∃ fs, P.underlying t = some (.struct fs) ∧ ti.fs = fs.toList.map fun f => (f.offset, P.cellsOf f.type, aggT P f.type) := by
  obtain ⟨i, u, hi, hu, rfl⟩ := x.ex
  cases u <;> simp at h ⊢
  exact ⟨_, hu, rfl⟩
theorem TIr.info (x : TIr P t ti) : ∃ i, P.info? t = some i ∧ i.size = ti.size ∧ i.bytes = ti.by_ ∧ ti.z = i.zero.map absV := by
  obtain ⟨i, u, hi, hu, rfl⟩ := x.ex
  exact ⟨i, hi, rfl, rfl, rfl⟩
theorem TIr.cells (x : TIr P t ti) : P.cellsOf t = ti.size := by
  obtain ⟨i, hi, h1, _⟩ := x.info
  simp [Program.cellsOf, hi, h1]
theorem TIr.und (x : TIr P t ti) : ∃ u, P.underlying t = some u := by
  obtain ⟨i, u, hi, hu, _⟩ := x.ex
  exact ⟨u, hu⟩
theorem TIr.aggEq (x : TIr P t ti) : aggT P t = ti.agg := by
  obtain ⟨i, u, hi, hu, rfl⟩ := x.ex
  rfl
end

mutual
/-- A constant, or a zero value, reads as its abstract one. -/
theorem absV_ok (m : LM) (K : Nat → Prop) : ∀ v : Value, VR m K v (absV v)
  | .bool b => by simp only [absV]; exact .bool b
  | .int k n => by simp only [absV]; exact .int k n
  | .string s => by simp only [absV]; exact .str s _ rfl
  | .pointer none => by simp only [absV]; exact .nilptr
  | .pointer (some a) => by simp only [absV]; exact .undef _
  | .slice none 0 0 => by simp only [absV]; exact .nilsl
  | .slice none 0 (_ + 1) => by simp only [absV]; exact .undef _
  | .slice none (_ + 1) _ => by simp only [absV]; exact .undef _
  | .slice (some _) _ _ => by simp only [absV]; exact .undef _
  | .agg ⟨cs⟩ => by simp only [absV]; exact .agg _ _ (absL_ok m K cs)
  | .func f a b => by
    unfold absV
    split <;> first | exact .undef _ | skip
    all_goals (simp_all; try exact .fn _ [] [] .nil)
  | .float .. => by simp only [absV]; exact .undef _
  | .complex .. => by simp only [absV]; exact .undef _
  | .map .. => by simp only [absV]; exact .undef _
  | .chan .. => by simp only [absV]; exact .undef _
  | .nilFunc => by simp only [absV]; exact .undef _
  | .iface .. => by simp only [absV]; exact .undef _
  | .nilIface => by simp only [absV]; exact .undef _
  | .tuple .. => by simp only [absV]; exact .undef _
theorem absL_ok (m : LM) (K : Nat → Prop) : ∀ l : List Value, VRL m K l (absL l)
  | [] => by simp only [absL]; exact .nil
  | v :: r => by simp only [absL]; exact .cons (absV_ok m K v) (absL_ok m K r)
end

/-- A value's cells, as the small code tells them. -/
theorem VR.cells {m : LM} {K : Nat → Prop} {v : Value} {a : AV} (h : VR m K v a) {l : List AV} (hl : cellsV a = some l) : VRL m K v.cells.toList l := by
  cases h <;> first
    | (cases hl; done)
    | (cases hl; exact .cons (by first | exact .bool _ | exact .int _ _ | exact .str _ _ ‹_› | exact .ptr _ _ ‹_› | exact .nilptr | exact .sl _ _ _ _ ‹_› | exact .so _ _ _ _ _ ‹_› ‹_› ‹_› | exact .nilsl | exact .fn _ _ _ ‹_›) .nil)
    | (cases hl; assumption)

section
variable {P : Program} {B : Nat} {m : LM} {K : Nat → Prop} {h : HF} {w : World}

theorem isAgg_run (t : TypeId) (hu : (P.underlying t).isSome) : (isAgg t).run P w = .ok (aggT P t) w := by
  obtain ⟨u, hu⟩ := Option.isSome_iff_exists.1 hu
  unfold isAgg aggT
  rw [Sem.run_bind, run_underlying hu]
  simp only [Result.andThen_ok, hu]
  cases u <;> rfl
theorem sizeOf_run (t : TypeId) {i : TypeInfo} (hi : P.info? t = some i) : (sizeOf t).run P w = .ok i.size w := by
  simp [sizeOf, typeInfo, hi]
theorem zeroValue_run (t : TypeId) {i : TypeInfo} {z : Value} (hi : P.info? t = some i) (hz : i.zero = some z) : (zeroValue t).run P w = .ok z w := by
  simp [zeroValue, typeInfo, hi, hz]

/-- mkV: a value of so many cells. -/
theorem mkV_spec {g : Bool} {l : List AV} {s s' : St} {b : AV} (hm : mkV g l s = .val b s') : s' = s ∧ ((g = true ∧ b = .agg l) ∨ (g = false ∧ l = [b])) := by
  cases g with
  | true => cases hm; exact ⟨rfl, .inl ⟨rfl, rfl⟩⟩
  | false =>
    cases l with
    | nil => cases hm
    | cons v r => cases r with
      | nil => cases hm; exact ⟨rfl, .inr ⟨rfl, rfl⟩⟩
      | cons _ _ => cases hm
theorem mkV_val {g : Bool} {l : List AV} {s : St} : (∃ b s', mkV g l s = .val b s') ∨ mkV g l s = .no := by
  cases g with
  | true => exact .inl ⟨_, _, rfl⟩
  | false => cases l with
    | nil => exact .inr rfl
    | cons v r => cases r with
      | nil => exact .inl ⟨_, _, rfl⟩
      | cons _ _ => exact .inr rfl

theorem run_load' (x : HR B m K h w) {t : TypeId} {ti : TI} (hT : TIr P t ti) {id off : Nat} {c l : List AV} (hc : h id = some c) (hl : cellsAt c off ti.size = some l) {b : AV} {s s' : St}
    (hm : mkV ti.agg l s = .val b s') :
    ∃ u, (loadVar t ⟨(m id).blk, (m id).base + off, none⟩).run P w = .ok u w ∧ VR m K u b := by
  obtain ⟨us, hlen, hv, hone, hcell⟩ := x.read hc hl
  obtain ⟨i, hi, hsz, _, _⟩ := hT.info
  obtain ⟨u0, hu0⟩ := hT.und
  obtain ⟨rfl, hm'⟩ := mkV_spec hm
  unfold loadVar
  rw [Sem.run_bind, isAgg_run t (by simp [hu0])]
  simp only [Result.andThen_ok, hT.aggEq]
  rcases hm' with ⟨hg, rfl⟩ | ⟨hg, rfl⟩
  · rw [hg]
    refine ⟨.agg ⟨us⟩, ?_, .agg _ _ hv⟩
    have := run_loadCells_list (P := P) (w := w) ⟨(m id).blk, (m id).base + off, none⟩ us hcell
    simp only [if_true, Sem.run_bind, sizeOf_run t hi, Result.andThen_ok, hsz, ← hlen, this, Sem.run_pure]
  · rw [hg]
    cases hv with
    | cons hv0 ht =>
      cases ht
      refine ⟨_, ?_, hv0⟩
      have := hcell 0 _ rfl
      simp only [Addr.add_zero'] at this
      simp [run_load, this]
end
end Go.Pal
