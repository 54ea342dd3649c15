/-
  strings.Repeat and a device's reading, told by their contracts.
-/
import Derived.Test.YtbnpcjbjcjlbnaaGreatDoorPalTab
import Derived.Lib.Repeat
namespace Go.Pal
open Go.RowKit

/-- So many copies. -/
noncomputable def repN (l : List Nat) (n : Nat) : List Nat := Nat.rec (motive := fun _ => List Nat) [] (fun _ ih => appN l ih) n
noncomputable def oRepeat : FT := fun _ args s => match args with
  | [.str l, .int .i64 (.ofNat n)] => bif Nat.ble n 1000000 then bif Nat.ble (Nat.mul (lenN l) n) 1000000 then .ok (.str (repN l n)) s [] else .no else .no
  | _ => .no

section
variable {P : Program}
theorem repN_eq (l : List UInt8) : ∀ n, (Lib.repeatL l n).map UInt8.toNat = repN (l.map UInt8.toNat) n
  | 0 => rfl
  | n + 1 => by
    rw [show repN (l.map UInt8.toNat) (n + 1) = appN (l.map UInt8.toNat) (repN (l.map UInt8.toNat) n) from rfl, appN_eq, ← repN_eq l n, Lib.repeatL, List.map_append]

theorem oRepeat_ok {f : Nat} (he : ∃ fn, Enters P f fn)
    (hc : ∀ (s : ByteArray) (c : Nat) (w : World), c ≤ 9223372036854775807 → s.size * c ≤ 140737488355328 → Calls P f #[.string s, .int .i64 c] w fun e w' => e = .returned (.string ⟨(Lib.repeatL s.data.toList c).toArray⟩) ∧ Below w.heap.size w w') :
    OracOk P f oRepeat := by
  refine OracOk.of fun args s v s' W hr ok => ?_
  match args, hr with
  | [.str l, .int .i64 (.ofNat n)], hr =>
    have hr' : (bif Nat.ble n 1000000 then bif Nat.ble (Nat.mul (lenN l) n) 1000000 then RF.ok (.str (repN l n)) s [] else .no else .no) = .ok v s' W := hr
    cases h1 : Nat.ble n 1000000 with
    | false => rw [h1] at hr'; cases hr'
    | true =>
      rw [h1] at hr'
      cases h2 : Nat.ble (Nat.mul (lenN l) n) 1000000 with
      | false => rw [h2] at hr'; cases hr'
      | true =>
        rw [h2] at hr'
        simp only [cond_true, RF.ok.injEq] at hr'
        obtain ⟨rfl, rfl, rfl⟩ := hr'
        refine ⟨.same ok, he, fun B m K h w vs hv hh hs hf => ?_⟩
        cases hv with
        | cons h3 t =>
          cases t with
          | cons h4 t =>
            cases t
            cases h4
            cases h3 with
            | str b _ hb =>
              have hn := nble_iff.1 h1
              have hl : b.size * n ≤ 1000000 := by
                have := nble_iff.1 h2
                rw [lenN_eq, ← hb, List.length_map] at this
                exact this
              refine (hc b n w (by omega) (by omega)).mono ?_
              rintro e w' ⟨rfl, hw⟩
              exact RetOk.same hh hs (.str _ _ (by rw [← hb]; simpa using repN_eq b.data.toList n)) hw

end

/-! ### A device's reading, where nothing waits and the power is on -/
/-- Is it a slice of no element? -/
noncomputable def none? (v : AV) : Bool := match v with | .nilsl => true | .sl _ _ n _ => Nat.beq n 0 | .so _ _ n _ => Nat.beq n 0 | _ => false
noncomputable def orF {α : Type} (o : Option α) (f : α → RF) : RF := Option.casesOn o .no f
noncomputable def readAt (s : St) (id off len i : Nat) : RF := bif Nat.blt i len then orF (get s.heap id) fun c => orF (cellsAt c (Nat.add off i) 1) fun l => match l with | [.str b] => .ok (.tup [.str b, .bool true]) s [] | _ => .no else .no
noncomputable def readSl (s : St) (l : AV) (i : Nat) : RF := match l with | .sl id off n _ => readAt s id off n i | .so id off n _ => readAt s id off n i | _ => .no
noncomputable def oRead : FT := fun _ args s => match args with
  | [.agg [l, w, .int .i64 _, .int .i64 _, .bool false], .int .i64 (.ofNat i)] => bif none? w then readSl s l i else .no
  | _ => .no
theorem orF_of {α : Type} {o : Option α} {f : α → RF} {v : AV} {s : St} {W : List Nat} (h : orF o f = .ok v s W) : ∃ a, o = some a ∧ f a = .ok v s W := by
  cases o with
  | none => cases h
  | some a => exact ⟨a, rfl, h⟩
theorem readAt_of {s s' : St} {id off len i : Nat} {v : AV} {W : List Nat} (h : readAt s id off len i = .ok v s' W) : ∃ c b, i < len ∧ get s.heap id = some c ∧ cellsAt c (off + i) 1 = some [.str b] ∧ v = .tup [.str b, .bool true] ∧ s' = s ∧ W = [] := by
  unfold readAt at h
  cases h1 : Nat.blt i len with
  | false => rw [h1] at h; cases h
  | true =>
    rw [h1] at h
    simp only [cond_true] at h
    obtain ⟨c, hc, h⟩ := orF_of h
    obtain ⟨l, hl, h⟩ := orF_of h
    split at h
    · rename_i b
      simp only [RF.ok.injEq] at h
      obtain ⟨rfl, rfl, rfl⟩ := h
      exact ⟨c, b, nblt_iff.1 h1, hc, hl, rfl, rfl, rfl⟩
    · cases h

section
variable {P : Program}
theorem none?_of {m : LM} {K : Nat → Prop} {u : Value} {v : AV} (h : VR m K u v) (hn : none? v = true) : ∃ p cap, u = .slice p 0 cap := by
  cases h <;> first
    | (cases hn; done)
    | exact ⟨_, _, rfl⟩
    | (rename_i len _ _ ; obtain rfl := nbeq_iff.1 (show Nat.beq _ 0 = true from hn); exact ⟨_, _, rfl⟩)
    | (obtain rfl := nbeq_iff.1 (show Nat.beq _ 0 = true from hn); exact ⟨_, _, rfl⟩)

theorem oRead_ok {f : Nat} (he : ∃ fn, Enters P f fn)
    (hc : ∀ (lb lo len lc cap : Nat) (p : Option Addr) (lies arm : Int) (i : Nat), i < len → ∀ (s : ByteArray) (w : World), lb < w.heap.size → w.cell? ⟨lb, lo + i, none⟩ = some (.string s) →
      Calls P f #[.agg #[.slice (some ⟨lb, lo, none⟩) len lc, .slice p 0 cap, .int .i64 lies, .int .i64 arm, .bool false], .int .i64 i] w fun e W' => e = .returned (.tuple #[.string s, .bool true]) ∧ Below w.heap.size w W') :
    OracOk P f oRead := by
  refine OracOk.of fun args s v s' W hr ok => ?_
  match args, hr with
  | [.agg [l, wv, .int .i64 a, .int .i64 b, .bool false], .int .i64 (.ofNat i)], hr =>
    have hr' : (bif none? wv then readSl s l i else RF.no) = .ok v s' W := hr
    cases hw : none? wv with
    | false => rw [hw] at hr'; cases hr'
    | true =>
      rw [hw] at hr'
      simp only [cond_true] at hr'
      have hl : ∃ id off n, (∀ {m K u}, VR m K u l → ∃ cap, u = .slice (some ⟨(m id).blk, (m id).base + off, none⟩) n cap) ∧ readAt s id off n i = .ok v s' W := by
        cases l with
        | sl id off n c => exact ⟨id, off, n, (fun h => by cases h; exact ⟨_, rfl⟩), hr'⟩
        | so id off n c => exact ⟨id, off, n, (fun h => by cases h; exact ⟨_, rfl⟩), hr'⟩
        | _ => cases hr'
      obtain ⟨id, off, n, hl, hrd⟩ := hl
      obtain ⟨c, bs, hi, hg, hcl, rfl, rfl, rfl⟩ := readAt_of hrd
      refine ⟨.same ok, he, fun B m K h w vs hv hh hs hf => ?_⟩
      cases hv with
      | cons h1 t =>
        cases t with
        | cons h2 t =>
          cases t
          cases h2
          cases h1 with
          | agg cs _ h1 =>
            cases h1 with
            | cons g1 t =>
              cases t with
              | cons g2 t =>
                cases t with
                | cons g3 t =>
                  cases t with
                  | cons g4 t =>
                    cases t with
                    | cons g5 t =>
                      cases t
                      cases g3
                      cases g4
                      cases g5
                      obtain ⟨lc, rfl⟩ := hl g1
                      obtain ⟨p, cap, rfl⟩ := none?_of g2 hw
                      have ho := hh.obj id c (hs id c hg)
                      obtain ⟨q1, q2⟩ := cellsAt_spec hcl
                      obtain ⟨u, k1, k2, k3⟩ := ho.cell (off + i) (.str bs) (by rw [← Nat.add_zero (off + i), q2 0 (by omega)]; rfl)
                      cases k2 with
                      | str sv _ hsv =>
                        refine (hc _ _ n lc cap p a b i hi sv w ho.lt (by rw [Nat.add_assoc]; exact k1)).mono ?_
                        rintro e w' ⟨rfl, hb⟩
                        exact RetOk.same hh hs (.tup _ _ (.cons (.str _ _ hsv) (.cons (.bool _) .nil))) hb
end
end Go.Pal
