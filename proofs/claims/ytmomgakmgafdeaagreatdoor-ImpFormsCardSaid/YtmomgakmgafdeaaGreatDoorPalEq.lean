/-
  Structs and arrays of numbers and texts compare cell by cell.
-/
import Derived.Test.YtmomgakmgafdeaaGreatDoorPalBin
import Derived.ChangeKeysEq
import Derived.Laws.StructEq
namespace Go.Pal
open Go.RowKit

theorem eqCs_nil (a b : List AV) : eqCs [] a b = some true := rfl
theorem eqCs_cons (k : Nat) (sg : List Nat) (x y : AV) (a b : List AV) : eqCs (k :: sg) (x :: a) (y :: b) = (match eqC k x y with | none => none | some t => if t = true then eqCs sg a b else some false) := by
  rw [show eqCs (k :: sg) (x :: a) (y :: b) = Option.casesOn (motive := fun _ => Option Bool) (eqC k x y) none (fun t => Bool.casesOn t (some false) (eqCs sg a b)) from rfl]
  cases eqC k x y with
  | none => rfl
  | some t => cases t <;> rfl
theorem eqCs_nilL (k : Nat) (sg : List Nat) (b : List AV) : eqCs (k :: sg) [] b = none := rfl
theorem eqCs_nilR (k : Nat) (sg : List Nat) (x : AV) (a : List AV) : eqCs (k :: sg) (x :: a) [] = none := rfl
theorem eqCs_app : ∀ (s1 s2 : List Nat) (la lb : List AV) (r : Bool), eqCs (s1 ++ s2) la lb = some r →
    (eqCs s1 la lb = some false ∧ r = false) ∨ (eqCs s1 la lb = some true ∧ eqCs s2 (la.drop s1.length) (lb.drop s1.length) = some r)
  | [], s2, la, lb, r, h => .inr ⟨rfl, h⟩
  | k :: s1, s2, [], lb, r, h => by cases h
  | k :: s1, s2, x :: la, [], r, h => by cases h
  | k :: s1, s2, x :: la, y :: lb, r, h => by
    simp only [List.cons_append, eqCs_cons, List.length_cons, List.drop_succ_cons] at h ⊢
    cases hc : eqC k x y with
    | none => rw [hc] at h; cases h
    | some t =>
      rw [hc] at h
      cases t with
      | false => cases h; exact .inl ⟨rfl, rfl⟩
      | true => exact eqCs_app s1 s2 la lb r h
theorem eqCs_take : ∀ (sg : List Nat) (a b : List AV), eqCs sg (a.take sg.length) (b.take sg.length) = eqCs sg a b
  | [], _, _ => rfl
  | k :: sg, [], _ => by simp [eqCs_nilL]
  | k :: sg, x :: a, [] => by simp [eqCs_nilR]
  | k :: sg, x :: a, y :: b => by simp only [List.length_cons, List.take_succ_cons, eqCs_cons, eqCs_take sg a b]

theorem VRL.take {m : LM} {K : Nat → Prop} : ∀ (n : Nat) {vs : List Value} {as : List AV}, VRL m K vs as → VRL m K (vs.take n) (as.take n)
  | 0, _, _, _ => by simp only [List.take_zero]; exact .nil
  | n + 1, _, _, .nil => by simp only [List.take_nil]; exact .nil
  | n + 1, _, _, .cons h t => by simp only [List.take_succ_cons]; exact .cons h (VRL.take n t)
theorem VRL.drop {m : LM} {K : Nat → Prop} : ∀ (n : Nat) {vs : List Value} {as : List AV}, VRL m K vs as → VRL m K (vs.drop n) (as.drop n)
  | 0, _, _, h => by simpa using h
  | n + 1, _, _, .nil => by simp only [List.drop_nil]; exact .nil
  | n + 1, _, _, .cons h t => by simp only [List.drop_succ_cons]; exact VRL.drop n t

section
variable {P : Program} {m : LM} {K : Nat → Prop} (w : World)

/-- The value of so many cells, at a type. -/
def valOf (P : Program) (t : TypeId) (cs : List Value) : Value := if aggT P t = true then .agg ⟨cs⟩ else cs.headD (.bool false)

theorem part_run (t : TypeId) (hu : (P.underlying t).isSome) {i : TypeInfo} (hi : P.info? t = some i) (cs : List Value) (off : Nat) (hf : off + i.size ≤ cs.length) (h1 : aggT P t = true ∨ i.size = 1) :
    (part t ⟨cs⟩ off).run P w = .ok (valOf P t ((cs.drop off).take i.size)) w := by
  unfold part valOf
  rw [Sem.run_bind, isAgg_run t hu]
  simp only [Result.andThen_ok]
  cases hg : aggT P t with
  | true =>
    simp only [if_true, Sem.run_bind, sizeOf_run t hi, Result.andThen_ok, Sem.run_pure]
    congr 2
    apply Array.ext'
    simp [List.extract_eq_take_drop]
  | false =>
    have hs : i.size = 1 := by
      rcases h1 with h1 | h1
      · rw [hg] at h1; cases h1
      · exact h1
    have hlt : off < cs.length := by omega
    simp only [Bool.false_eq_true, if_false]
    have e : (⟨cs⟩ : Array Value)[off]? = some cs[off] := by simp [hlt]
    rw [e]
    simp only [Sem.run_pure]
    congr 1
    rw [hs]
    rw [List.drop_eq_getElem_cons hlt]
    rfl

theorem info_of_und {t : TypeId} (h : (P.underlying t).isSome) : ∃ i, P.info? t = some i := by
  cases hi : P.info? t with
  | none => simp [Program.underlying, hi] at h
  | some i => exact ⟨i, rfl⟩
theorem sig_und {d : Nat} {t : TypeId} {sg : List Nat} (h : sigT P d t = some sg) : (P.underlying t).isSome := by
  cases d with
  | zero => simp [sigT] at h
  | succ d =>
    cases hu : P.underlying t with
    | none => simp [sigT, hu] at h
    | some u => rfl
theorem sig_one {d : Nat} {t : TypeId} {sg : List Nat} (h : sigT P d t = some sg) : (aggT P t = true ∨ P.cellsOf t = 1) ∧ P.cellsOf t = sg.length := by
  cases d with
  | zero => simp [sigT] at h
  | succ d =>
    cases hu : P.underlying t with
    | none => simp [sigT, hu] at h
    | some u =>
      cases u <;> simp only [sigT, hu] at h <;> first | (cases h; done) | skip
      case bool => obtain ⟨h1, h2⟩ : Nat.beq (P.cellsOf t) 1 = true ∧ [0] = sg := by { cases e : Nat.beq (P.cellsOf t) 1 <;> simp [e] at h; exact ⟨rfl, h⟩ }
                   subst h2; exact ⟨.inr (nbeq_iff.1 h1), nbeq_iff.1 h1⟩
      case int k => obtain ⟨h1, h2⟩ : Nat.beq (P.cellsOf t) 1 = true ∧ [1] = sg := by { cases e : Nat.beq (P.cellsOf t) 1 <;> simp [e] at h; exact ⟨rfl, h⟩ }
                    subst h2; exact ⟨.inr (nbeq_iff.1 h1), nbeq_iff.1 h1⟩
      case string => obtain ⟨h1, h2⟩ : Nat.beq (P.cellsOf t) 1 = true ∧ [2] = sg := by { cases e : Nat.beq (P.cellsOf t) 1 <;> simp [e] at h; exact ⟨rfl, h⟩ }
                     subst h2; exact ⟨.inr (nbeq_iff.1 h1), nbeq_iff.1 h1⟩
      case struct fs =>
        refine ⟨.inl (by simp [aggT, hu]), ?_⟩
        cases hs : P.stoodInHeld t <;> simp only [hs, cond_true, cond_false] at h
        · cases hf : sigF P d fs.toList 0 with
          | none => simp [hf] at h
          | some l =>
            simp only [hf] at h
            cases e : Nat.beq (P.cellsOf t) l.length <;> simp [e] at h
            subst h; exact nbeq_iff.1 e
        · cases h
      case array n e =>
        refine ⟨.inl (by simp [aggT, hu]), ?_⟩
        cases hl : sigT P d e with
        | none => simp [hl] at h
        | some l =>
          simp only [hl] at h
          cases e1 : Nat.beq (P.cellsOf e) l.length <;> cases e2 : Nat.beq (P.cellsOf t) (n * l.length) <;> simp [e1, e2] at h
          subst h
          rw [nbeq_iff.1 e2]
          simp

/-- At one cell. -/
theorem eqC_run {k : Nat} {t : TypeId} (D : Nat) {x y : Value} {a b : AV} (hx : VR m K x a) (hy : VR m K y b) {r : Bool} (h : eqC k a b = some r)
    (ht : (k = 0 ∧ P.underlying t = some .bool) ∨ (k = 1 ∧ ∃ i, P.underlying t = some (.int i)) ∨ (k = 2 ∧ P.underlying t = some .string)) :
    (Op.equalIn (D + 1) t x y).run P w = .ok r w := by
  rcases ht with ⟨rfl, hu⟩ | ⟨rfl, i, hu⟩ | ⟨rfl, hu⟩
  · cases hx <;> first | (cases h; done) | skip
    · cases hy <;> first | (cases h; done) | skip
      rename_i c d
      rw [run_equalIn_bool' w D t c d hu]
      cases c <;> cases d <;> cases h <;> rfl
    · cases hy <;> cases h
    · cases hy <;> cases h
  · cases hx <;> first | (cases h; done) | skip
    · cases hy <;> cases h
    · cases hy <;> first | (cases h; done) | skip
      rename_i k c k2 d
      have h' : (bif true && Nat.beq (kno k) (kno k2) then some (eqI c d) else none) = some r := h
      cases hk : Nat.beq (kno k) (kno k2) with
      | false => rw [hk] at h'; cases h'
      | true =>
        rw [hk] at h'
        obtain rfl := kno_inj hk
        cases h'
        rw [run_equalIn_int w D t k i c d hu, eqI_eq]
    · cases hy <;> cases h
  · cases hx <;> first | (cases h; done) | skip
    · cases hy <;> cases h
    · cases hy <;> cases h
    · rename_i s1 l1 h1
      cases hy <;> first | (cases h; done) | skip
      rename_i s2 l2 h2
      have h' : some (beqN l1 l2) = some r := h
      cases h'
      subst h1; subst h2
      rw [run_equalIn_string w D t s1 s2 hu, beqN_eq, beq_bytes, ByteArray.toList_eq, ByteArray.toList_eq]

/-- What is to be shown of a type. -/
def EqOk (P : Program) (w : World) (t : TypeId) (sg : List Nat) (D : Nat) : Prop :=
  ∀ (m : LM) (K : Nat → Prop) (xs ys : List Value) (la lb : List AV), xs.length = sg.length → ys.length = sg.length → VRL m K xs la → VRL m K ys lb →
    ∀ (r : Bool), eqCs sg la lb = some r → (Op.equalIn D t (valOf P t xs) (valOf P t ys)).run P w = .ok r w

theorem eq_scal {t : TypeId} {k D : Nat} (hg : aggT P t = false) (ht : (k = 0 ∧ P.underlying t = some .bool) ∨ (k = 1 ∧ ∃ i, P.underlying t = some (.int i)) ∨ (k = 2 ∧ P.underlying t = some .string)) : EqOk P w t [k] (D + 1) := by
  intro m K xs ys la lb hx hy vx vy r h
  cases vx with
  | nil => simp at hx
  | cons hx0 tx => cases tx with
    | cons _ _ => simp at hx
    | nil => cases vy with
      | nil => simp at hy
      | cons hy0 ty => cases ty with
        | cons _ _ => simp at hy
        | nil =>
          rw [eqCs_cons, eqCs_nil] at h
          have e : ∀ x : Value, valOf P t [x] = x := fun x => by unfold valOf; rw [hg]; rfl
          rw [e, e]
          refine eqC_run w D hx0 hy0 (k := k) ?_ ht
          revert h
          generalize eqC k _ _ = q
          intro h
          cases q with
          | none => cases h
          | some q => cases q <;> cases h <;> rfl

theorem eq_sig : ∀ (d : Nat), (∀ (t : TypeId) (sg : List Nat), sigT P d t = some sg → ∀ D, d ≤ D → EqOk P w t sg D) ∧
    (∀ (fs : List Field) (o : Nat) (sg : List Nat), sigF P d fs o = some sg → ∀ D, d ≤ D → ∀ (m : LM) (K : Nat → Prop) (xs ys : List Value) (la lb : List AV), o + sg.length ≤ xs.length → o + sg.length ≤ ys.length → VRL m K xs la → VRL m K ys lb →
      ∀ (r : Bool), eqCs sg (la.drop o) (lb.drop o) = some r → (Op.eqFields D ⟨xs⟩ ⟨ys⟩ fs).run P w = .ok r w) := by
  intro d
  induction d with
  | zero => exact ⟨fun t sg h => by simp [sigT] at h, fun fs o sg h => by simp [sigF] at h⟩
  | succ d ih =>
    refine ⟨fun t sg h D hD => ?_, fun fs o sg h D hD m K xs ys la lb hx hy vx vy r he => ?_⟩
    · obtain ⟨D, rfl⟩ : ∃ D', D = D' + 1 := ⟨D - 1, by omega⟩
      have hD' : d ≤ D := by omega
      cases hu : P.underlying t with
      | none => simp [sigT, hu] at h
      | some u =>
        cases u <;> simp only [sigT, hu] at h <;> first | (cases h; done) | skip
        case bool =>
          cases e : Nat.beq (P.cellsOf t) 1 <;> simp [e] at h
          subst h
          exact eq_scal w (by simp [aggT, hu]) (.inl ⟨rfl, hu⟩)
        case int k =>
          cases e : Nat.beq (P.cellsOf t) 1 <;> simp [e] at h
          subst h
          exact eq_scal w (by simp [aggT, hu]) (.inr (.inl ⟨rfl, k, hu⟩))
        case string =>
          cases e : Nat.beq (P.cellsOf t) 1 <;> simp [e] at h
          subst h
          exact eq_scal w (by simp [aggT, hu]) (.inr (.inr ⟨rfl, hu⟩))
        case struct fs =>
          cases hs : P.stoodInHeld t <;> simp only [hs, cond_true, cond_false] at h
          · cases hf : sigF P d fs.toList 0 with
            | none => simp [hf] at h
            | some l =>
              simp only [hf] at h
              cases e : Nat.beq (P.cellsOf t) l.length <;> simp [e] at h
              subst h
              intro m K xs ys la lb hx hy vx vy r he
              have hg : aggT P t = true := by simp [aggT, hu]
              have hfo : P.fieldsOf t = fs := by simp [Program.fieldsOf, hu]
              unfold valOf
              simp only [hg, if_true]
              rw [run_equalIn_struct w D t ⟨xs⟩ ⟨ys⟩ (by rw [hfo]; exact hu) hs, hfo]
              exact ih.2 fs.toList 0 l hf D hD' m K xs ys la lb (by omega) (by omega) vx vy r (by simpa using he)
          · cases h
        case array n e =>
          cases hl : sigT P d e with
          | none => simp [hl] at h
          | some l =>
            simp only [hl] at h
            cases e1 : Nat.beq (P.cellsOf e) l.length <;> cases e2 : Nat.beq (P.cellsOf t) (n * l.length) <;> simp [e1, e2] at h
            subst h
            intro m K xs ys la lb hx hy vx vy r he
            have hg : aggT P t = true := by simp [aggT, hu]
            have hue := sig_und hl
            obtain ⟨i, hi⟩ := info_of_und hue
            have hc : P.cellsOf e = i.size := by simp [Program.cellsOf, hi]
            have hlen := (sig_one hl).2
            have hone := (sig_one hl).1
            unfold valOf
            simp only [hg, if_true]
            rw [run_equalIn_array w D ⟨xs⟩ ⟨ys⟩ hu hi, List.range_eq_range']
            simp only [List.length_flatten, List.map_replicate, List.sum_replicate_nat] at hx hy
            have key : ∀ (k a : Nat), a + k ≤ n → ∀ r, eqCs ((List.replicate k l).flatten) (la.drop (a * l.length)) (lb.drop (a * l.length)) = some r → (Op.eqItems D e (P.cellsOf e) ⟨xs⟩ ⟨ys⟩ (List.range' a k)).run P w = .ok r w := by
              intro k
              induction k with
              | zero => intro a _ r hr; cases hr; simp [Op.eqItems]
              | succ k ihk =>
                intro a ha r hr
                have hfit : a * l.length + l.length ≤ n * l.length := by rw [← Nat.succ_mul]; exact Nat.mul_le_mul_right _ (by omega)
                rw [List.replicate_succ, List.flatten_cons] at hr
                simp only [List.range'_succ, Op.eqItems, Sem.run_bind]
                rw [hlen]
                rw [part_run w e hue hi xs _ (by rw [← hc, hlen]; omega) (by rw [← hc]; exact hone)]
                simp only [Result.andThen_ok]
                rw [part_run w e hue hi ys _ (by rw [← hc, hlen]; omega) (by rw [← hc]; exact hone)]
                simp only [Result.andThen_ok]
                have sub : ∀ r1, eqCs l (la.drop (a * l.length)) (lb.drop (a * l.length)) = some r1 → (Op.equalIn D e (valOf P e ((xs.drop (a * l.length)).take i.size)) (valOf P e ((ys.drop (a * l.length)).take i.size))).run P w = .ok r1 w := fun r1 h1 => by
                  rw [← hc, hlen]
                  exact ih.1 e l hl D hD' m K _ _ _ _ (by simp; omega) (by simp; omega) ((vx.drop _).take _) ((vy.drop _).take _) r1 (by rw [eqCs_take]; exact h1)
                rcases eqCs_app l _ _ _ r hr with ⟨g1, rfl⟩ | ⟨g1, g2⟩
                · rw [sub false g1]; simp
                · rw [sub true g1]
                  simp only [Result.andThen_ok, Bool.not_true, Bool.false_eq_true, if_false]
                  rw [List.drop_drop, List.drop_drop, ← Nat.succ_mul] at g2
                  rw [← hlen]
                  exact ihk (a + 1) (by omega) r g2
            exact key n 0 (by omega) r (by simpa using he)
    · cases fs with
      | nil =>
        simp [sigF] at h
        subst h
        cases he
        simp [Op.eqFields]
      | cons f fs =>
        cases hl : sigT P d f.type with
        | none => simp [sigF, hl] at h
        | some l =>
          simp only [sigF, hl] at h
          cases hq : sigF P d fs (o + l.length) with
          | none => simp [hq] at h
          | some q =>
            simp only [hq] at h
            cases e1 : (f.name != "_") <;> cases e2 : Nat.beq f.offset o <;> cases e3 : Nat.beq (P.cellsOf f.type) l.length <;> simp [e1, e2, e3] at h
            subst h
            have hue := sig_und hl
            obtain ⟨i, hi⟩ := info_of_und hue
            have hc : P.cellsOf f.type = i.size := by simp [Program.cellsOf, hi]
            have hlen := (sig_one hl).2
            have hone := (sig_one hl).1
            simp only [List.length_append] at hx hy
            have ho := nbeq_iff.1 e2
            have hn : f.name ≠ "_" := by simpa using e1
            simp only [Op.eqFields, if_pos hn, Sem.run_bind, ho]
            rw [part_run w f.type hue hi xs _ (by rw [← hc, hlen]; omega) (by rw [← hc]; exact hone)]
            simp only [Result.andThen_ok]
            rw [part_run w f.type hue hi ys _ (by rw [← hc, hlen]; omega) (by rw [← hc]; exact hone)]
            simp only [Result.andThen_ok]
            have sub : ∀ r1, eqCs l (la.drop o) (lb.drop o) = some r1 → (Op.equalIn D f.type (valOf P f.type ((xs.drop o).take i.size)) (valOf P f.type ((ys.drop o).take i.size))).run P w = .ok r1 w := fun r1 h1 => by
              rw [← hc, hlen]
              exact ih.1 f.type l hl D (by omega) m K _ _ _ _ (by simp; omega) (by simp; omega) ((vx.drop _).take _) ((vy.drop _).take _) r1 (by rw [eqCs_take]; exact h1)
            rcases eqCs_app l _ _ _ r he with ⟨g1, rfl⟩ | ⟨g1, g2⟩
            · rw [sub false g1]; simp
            · rw [sub true g1]
              simp only [Result.andThen_ok, Bool.not_true, Bool.false_eq_true, if_false]
              rw [List.drop_drop, List.drop_drop] at g2
              exact ih.2 fs (o + l.length) q hq D (by omega) m K xs ys la lb (by omega) (by omega) vx vy r g2
end

theorem eqaR_ok {P : Program} {m : LM} {K : Nat → Prop} {t : TypeId} {ti : TI} (hT : TIr P t ti) {sg : List Nat} (hp : ti.plain = some sg) (hk : ti.k = .struct ∨ ∃ n, ti.k = .array n) (x y : Operand) (ne : Bool)
    {u v : Value} {a b : AV} (hu : VR m K u a) (hv : VR m K v b) {s s' : St} {c : AV} (h : eqaR sg ne a b s = .val c s') :
    s' = s ∧ Gives P (do eqGuard (if ne then .neq else .eql) t x y u v; binOp (if ne then .neq else .eql) t u v) m K c := by
  cases hu <;> first | (cases h; done) | skip
  rename_i cs la hc
  cases hv <;> first | (cases h; done) | skip
  rename_i ds lb hd
  obtain ⟨h1, h2⟩ := cond_no (show (bif Nat.beq (lenA la) (lenN sg) && Nat.beq (lenA lb) (lenN sg) then orNo (eqCs sg la lb) (fun t => vBool (neg ne t) s) else .no) = _ from h)
  simp only [Bool.and_eq_true, nbeq_iff, lenA_eq, lenN_eq] at h1
  cases he : eqCs sg la lb with
  | none => rw [he] at h2; cases h2
  | some r =>
    rw [he] at h2
    obtain ⟨rfl, rfl⟩ := vBool_of (show vBool (neg ne r) s = _ from h2)
    obtain ⟨i, uu, hi, hund, rfl⟩ := hT.ex
    simp only at hp
    cases hg : P.eqGuardType P.depth t with
    | true => rw [hg] at hp; cases hp
    | false =>
      rw [hg] at hp
      have hs : sigT P 30 t = some sg := hp
      have hagg : aggT P t = true := by
        unfold aggT
        rw [hund]
        rcases hk with hk | ⟨n, hk⟩ <;> cases uu <;> simp at hk ⊢
      refine ⟨rfl,   .bool (neg ne r), fun w => ?_, .bool _⟩
      have key := (eq_sig w 30).1 t sg hs 10000 (by omega) m K cs ds la lb (by rw [hc.length]; exact h1.1) (by rw [hd.length]; exact h1.2) hc hd r he
      unfold valOf at key
      simp only [hagg, if_true] at key
      rw [Sem.run_bind, run_eqGuard_agg w _ t x y _ _ hg]
      simp only [Result.andThen_ok]
      cases ne
      · simp only [Bool.false_eq_true, if_false]
        rw [run_eql_struct, key]; rfl
      · simp only [if_true]
        rw [run_neq_struct, key]; rfl
end Go.Pal
