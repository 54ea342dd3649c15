/-
  strings.Repeat and a device's reading, told by their contracts.
-/
import Derived.Test.YtmomgakmgafdeaaGreatDoorPalTab
import Derived.Lib.Repeat
namespace Go.Pal
open Go.RowKit

/-- So many copies. -/
noncomputable def repN (l : List Nat) (n : Nat) : List Nat := Nat.rec (motive := fun _ => List Nat) [] (fun _ ih => appN l ih) n
noncomputable def oRepeat : FT := fun _ args s => match args with
  | [.str l, .int .i64 (.ofNat n)] => bif Nat.ble n 1000000 then bif Nat.ble (Nat.mul (lenN l) n) 1000000 then .ok (.str (repN l n)) s [] else .no else .no
  | _ => .no

section
variable {P : Program}
theorem repN_eq (l : List UInt8) : ∀ n, (Lib.repeatL l n).map UInt8.toNat = repN (l.map UInt8.toNat) n
  | 0 => rfl
  | n + 1 => by
    rw [show repN (l.map UInt8.toNat) (n + 1) = appN (l.map UInt8.toNat) (repN (l.map UInt8.toNat) n) from rfl, appN_eq, ← repN_eq l n, Lib.repeatL, List.map_append]

theorem oRepeat_ok {f : Nat} (he : ∃ fn, Enters P f fn)
    (hc : ∀ (s : ByteArray) (c : Nat) (w : World), c ≤ 9223372036854775807 → s.size * c ≤ 140737488355328 → Calls P f #[.string s, .int .i64 c] w fun e w' => e = .returned (.string ⟨(Lib.repeatL s.data.toList c).toArray⟩) ∧ Below w.heap.size w w') :
    OracOk P f oRepeat := by
  refine OracOk.of fun args s v s' W hr ok => ?_
  match args, hr with
  | [.str l, .int .i64 (.ofNat n)], hr =>
    have hr' : (bif Nat.ble n 1000000 then bif Nat.ble (Nat.mul (lenN l) n) 1000000 then RF.ok (.str (repN l n)) s [] else .no else .no) = .ok v s' W := hr
    cases h1 : Nat.ble n 1000000 with
    | false => rw [h1] at hr'; cases hr'
    | true =>
      rw [h1] at hr'
      cases h2 : Nat.ble (Nat.mul (lenN l) n) 1000000 with
      | false => rw [h2] at hr'; cases hr'
      | true =>
        rw [h2] at hr'
        simp only [cond_true, RF.ok.injEq] at hr'
        obtain ⟨rfl, rfl, rfl⟩ := hr'
        refine ⟨.same ok, he, fun B m K h w vs hv hh hs hf => ?_⟩
        cases hv with
        | cons h3 t =>
          cases t with
          | cons h4 t =>
            cases t
            cases h4
            cases h3 with
            | str b _ hb =>
              have hn := nble_iff.1 h1
              have hl : b.size * n ≤ 1000000 := by
                have := nble_iff.1 h2
                rw [lenN_eq, ← hb, List.length_map] at this
                exact this
              refine (hc b n w (by omega) (by omega)).mono ?_
              rintro e w' ⟨rfl, hw⟩
              exact RetOk.same hh hs (.str _ _ (by rw [← hb]; simpa using repN_eq b.data.toList n)) hw

end

/-! ### A device's reading: the power is off; no such sector; nothing waits -/
noncomputable def orF {α : Type} (o : Option α) (f : α → RF) : RF := Option.casesOn o .no f
/-- A slice: nil, its length, where it lies. -/
noncomputable def slice? (v : AV) : Option (Nat × Option (Nat × Nat)) := match v with | .nilsl => some (0, none) | .sl id off n _ => some (n, some (id, off)) | .so id off n _ => some (n, some (id, off)) | _ => none
noncomputable def noRead (s : St) : RF := .ok (.tup [.str [], .bool false]) s []
noncomputable def readAt (s : St) (a : Option (Nat × Nat)) (i : Nat) : RF := orF a fun a => orF (get s.heap a.1) fun c => orF (cellsAt c (Nat.add a.2 i) 1) fun l => match l with | [.str b] => .ok (.tup [.str b, .bool true]) s [] | _ => .no
noncomputable def readSl (s : St) (l w : AV) (i : Int) : RF := orF (slice? l) fun a => orF (slice? w) fun b => Int.casesOn i (fun i => bif Nat.blt i a.1 then (bif Nat.beq b.1 0 then readAt s a.2 i else .no) else noRead s) (fun _ => noRead s)
noncomputable def oRead : FT := fun _ args s => match args with
  | [.agg [_, _, _, _, .bool true], .int .i64 _] => noRead s
  | [.agg [l, w, .int .i64 _, .int .i64 _, .bool false], .int .i64 i] => readSl s l w i
  | _ => .no
theorem orF_of {α : Type} {o : Option α} {f : α → RF} {v : AV} {s : St} {W : List Nat} (h : orF o f = .ok v s W) : ∃ a, o = some a ∧ f a = .ok v s W := by
  cases o with
  | none => cases h
  | some a => exact ⟨a, rfl, h⟩
theorem readAt_of {s s' : St} {a : Option (Nat × Nat)} {i : Nat} {v : AV} {W : List Nat} (h : readAt s a i = .ok v s' W) : ∃ id off c b, a = some (id, off) ∧ get s.heap id = some c ∧ cellsAt c (off + i) 1 = some [.str b] ∧ v = .tup [.str b, .bool true] ∧ s' = s ∧ W = [] := by
  unfold readAt at h
  obtain ⟨⟨id, off⟩, ha, h1⟩ := orF_of h
  obtain ⟨c, hc, h2⟩ := orF_of h1
  obtain ⟨l, hl, h3⟩ := orF_of h2
  split at h3
  · rename_i b
    simp only [RF.ok.injEq] at h3
    obtain ⟨rfl, rfl, rfl⟩ := h3
    exact ⟨id, off, c, b, ha, hc, hl, rfl, rfl, rfl⟩
  · cases h3

section
variable {P : Program}
theorem slice?_of {m : LM} {K : Nat → Prop} {u : Value} {v : AV} (h : VR m K u v) {n : Nat} {a : Option (Nat × Nat)} (hn : slice? v = some (n, a)) : ∃ p cap, u = .slice p n cap ∧ ∀ id off, a = some (id, off) → p = some ⟨(m id).blk, (m id).base + off, none⟩ := by
  cases h <;> first
    | (cases hn; done)
    | (cases hn; exact ⟨_, _, rfl, fun _ _ e => by cases e <;> rfl⟩)

theorem oRead_ok {f : Nat} (he : ∃ fn, Enters P f fn)
    (hd : ∀ (v1 v2 v3 v4 : Value) (i : Int) (w : World), Calls P f #[.agg #[v1, v2, v3, v4, .bool true], .int .i64 i] w fun e W' => e = .returned (.tuple #[.string ⟨#[]⟩, .bool false]) ∧ Below w.heap.size w W')
    (ho : ∀ (a p : Option Addr) (len lc n2 cap : Nat) (lies arm : Int) (i : Int), (i < 0 ∨ len ≤ i) → ∀ w : World,
      Calls P f #[.agg #[.slice a len lc, .slice p n2 cap, .int .i64 lies, .int .i64 arm, .bool false], .int .i64 i] w fun e W' => e = .returned (.tuple #[.string ⟨#[]⟩, .bool false]) ∧ Below w.heap.size w W')
    (hc : ∀ (lb lo len lc cap : Nat) (p : Option Addr) (lies arm : Int) (i : Nat), i < len → ∀ (s : ByteArray) (w : World), lb < w.heap.size → w.cell? ⟨lb, lo + i, none⟩ = some (.string s) →
      Calls P f #[.agg #[.slice (some ⟨lb, lo, none⟩) len lc, .slice p 0 cap, .int .i64 lies, .int .i64 arm, .bool false], .int .i64 i] w fun e W' => e = .returned (.tuple #[.string s, .bool true]) ∧ Below w.heap.size w W') :
    OracOk P f oRead := by
  refine OracOk.of fun args s v s' W hr ok => ?_
  match args, hr with
  | [.agg [_, _, _, _, .bool true], .int .i64 i], hr =>
    have hr' : noRead s = .ok v s' W := hr
    simp only [noRead, RF.ok.injEq] at hr'
    obtain ⟨rfl, rfl, rfl⟩ := hr'
    refine ⟨.same ok, he, fun B m K h w vs hv hh hs hf => ?_⟩
    cases hv with
    | cons h1 t =>
      cases t with
      | cons h2 t =>
        cases t
        cases h2
        cases h1 with
        | agg cs _ h1 =>
          cases h1 with
          | cons g1 t =>
            cases t with
            | cons g2 t =>
              cases t with
              | cons g3 t =>
                cases t with
                | cons g4 t =>
                  cases t with
                  | cons g5 t =>
                    cases t
                    cases g5
                    refine (hd _ _ _ _ i w).mono ?_
                    rintro e w' ⟨rfl, hb⟩
                    exact RetOk.same hh hs (.tup _ _ (.cons (.str _ _ rfl) (.cons (.bool _) .nil))) hb
  | [.agg [l, wv, .int .i64 a, .int .i64 b, .bool false], .int .i64 i], hr =>
    have hr' : readSl s l wv i = .ok v s' W := hr
    unfold readSl at hr'
    obtain ⟨⟨n, al⟩, hl, hr'⟩ := orF_of hr'
    obtain ⟨⟨n2, aw⟩, hw, hr'⟩ := orF_of hr'
    have open1 : ∀ {m : LM} {K : Nat → Prop} {vs : List Value}, VRL m K vs [.agg [l, wv, .int .i64 a, .int .i64 b, .bool false], .int .i64 i] →
        ∃ p lc p2 c2, vs = [.agg #[.slice p n lc, .slice p2 n2 c2, .int .i64 a, .int .i64 b, .bool false], .int .i64 i] ∧ ∀ id off, al = some (id, off) → p = some ⟨(m id).blk, (m id).base + off, none⟩ := by
      intro m K vs hv
      cases hv with
      | cons h1 t =>
        cases t with
        | cons h2 t =>
          cases t
          cases h2
          cases h1 with
          | agg cs _ h1 =>
            cases h1 with
            | cons g1 t =>
              cases t with
              | cons g2 t =>
                cases t with
                | cons g3 t =>
                  cases t with
                  | cons g4 t =>
                    cases t with
                    | cons g5 t =>
                      cases t
                      cases g3
                      cases g4
                      cases g5
                      obtain ⟨p, lc, rfl, h⟩ := slice?_of g1 hl
                      obtain ⟨p2, c2, rfl, _⟩ := slice?_of g2 hw
                      exact ⟨p, lc, p2, c2, rfl, h⟩
    have out : (i < 0 ∨ (n : Int) ≤ i) → noRead s = .ok v s' W → StOk s s' W ∧ (∃ fn, Enters P f fn) ∧
        ∀ B m K h w vs, VRL m K vs [.agg [l, wv, .int .i64 a, .int .i64 b, .bool false], .int .i64 i] → HR B m K h w → Sub s h → Fr K s.nxt s'.nxt → Calls P f ⟨vs⟩ w (RetOk B m K h w s.nxt W s' v) := by
      intro hi hr'
      simp only [noRead, RF.ok.injEq] at hr'
      obtain ⟨rfl, rfl, rfl⟩ := hr'
      refine ⟨.same ok, he, fun B m K h w vs hv hh hs hf => ?_⟩
      obtain ⟨p, lc, p2, c2, rfl, _⟩ := open1 hv
      refine (ho p p2 n lc n2 c2 a b i hi w).mono ?_
      rintro e w' ⟨rfl, hb⟩
      exact RetOk.same hh hs (.tup _ _ (.cons (.str _ _ rfl) (.cons (.bool _) .nil))) hb
    cases i with
    | negSucc k => exact out (.inl (by omega)) hr'
    | ofNat k =>
      have hr2 : (bif Nat.blt k n then (bif Nat.beq n2 0 then readAt s al k else .no) else noRead s) = .ok v s' W := hr'
      clear hr'
      cases h1 : Nat.blt k n with
      | false =>
        rw [h1] at hr2
        exact out (.inr (by have : ¬ k < n := fun h => by rw [nblt_iff.2 h] at h1; cases h1
                            show (n : Int) ≤ (k : Int); omega)) hr2
      | true =>
        rw [h1] at hr2
        simp only [cond_true] at hr2
        cases h2 : Nat.beq n2 0 with
        | false => rw [h2] at hr2; cases hr2
        | true =>
          rw [h2] at hr2
          simp only [cond_true] at hr2
          obtain rfl := nbeq_iff.1 h2
          obtain ⟨id, off, c, bs, rfl, hg, hcl, rfl, rfl, rfl⟩ := readAt_of hr2
          refine ⟨.same ok, he, fun B m K h w vs hv hh hs hf => ?_⟩
          obtain ⟨p, lc, p2, c2, rfl, hp⟩ := open1 hv
          obtain rfl := hp id off rfl
          have ho := hh.obj id c (hs id c hg)
          obtain ⟨q1, q2⟩ := cellsAt_spec hcl
          obtain ⟨u, k1, k2, k3⟩ := ho.cell (off + k) (.str bs) (by rw [← Nat.add_zero (off + k), q2 0 (by omega)]; rfl)
          cases k2 with
          | str sv _ hsv =>
            refine (hc _ _ n lc c2 p2 a b k (nblt_iff.1 h1) sv w ho.lt (by rw [Nat.add_assoc]; exact k1)).mono ?_
            rintro e w' ⟨rfl, hb⟩
            exact RetOk.same hh hs (.tup _ _ (.cons (.str _ _ hsv) (.cons (.bool _) .nil))) hb
end
end Go.Pal
