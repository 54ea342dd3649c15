/-
  A region whose order is the text's.
-/
import Derived.Test.YtmomgakmgafdeaaGreatDoorPalStep4
namespace Go.Pal
open Go.RowKit

/-! ### The evaluator's states -/
theorem step_st {i : I} {fr : Tr} {L : List AV} {s : St} (ok : OKs s) :
    (∀ {c s'}, step i fr L s = .val c s' → StOk s s' []) ∧ (∀ {c s' W}, step i fr L s = .eff c s' W → StOk s s' W) ∧ (∀ {f args s'}, step i fr L s = .call f args s' → s' = s) := by
  rcases kind_le i with hk | hk | hk
  · have hv := step_isV i fr L s hk
    refine ⟨fun {c s'} h => ?_, fun {c s' W} h => ?_, fun {f args s'} h => ?_⟩
    · rw [h] at hv
      rcases (show s' = s ∨ _ from hv) with rfl | ⟨l, rfl⟩
      · exact .refl ok _
      · exact .new ok l _
    · rw [h] at hv; exact hv.elim
    · rw [h] at hv; exact hv.elim
  · have he := step_isE i fr L s hk
    refine ⟨fun {c s'} h => ?_, fun {c s' W} h => ?_, fun {f args s'} h => ?_⟩
    · rw [h] at he; exact he.elim
    · cases i <;> first | (cases hk; done) | skip
      · exact storeR_st ok (show storeR _ _ _ _ = _ from h)
      · rename_i esz a b
        have h' : (lenA? (rd b fr L) fun n => small n (lenA? (rd a fr L) fun k => small k (srcA s esz n (rd b fr L) fun l => appR s esz (rd a fr L) n l))) = .eff c s' W := h
        obtain ⟨n, _, hr1⟩ := lenA_of h' (by simp)
        obtain ⟨_, hr2⟩ := small_of hr1 (by simp)
        obtain ⟨k, _, hr3⟩ := lenA_of hr2 (by simp)
        obtain ⟨_, hr4⟩ := small_of hr3 (by simp)
        obtain ⟨l, hr5⟩ := srcR_any (srcA_of hr4 (by simp)) (by simp)
        exact appR_st ok hr5
      · rename_i esz z a b
        have h' : (onNat (rd b fr L) fun n => small n (lenA? (rd a fr L) fun k => small k (bif Nat.beq (lenA z) esz then appR s esz (rd a fr L) n (rep n z) else .no))) = .eff c s' W := h
        obtain ⟨_, n, _, hr1⟩ := onNat_of h' (by simp)
        obtain ⟨_, hr2⟩ := small_of hr1 (by simp)
        obtain ⟨k, _, hr3⟩ := lenA_of hr2 (by simp)
        obtain ⟨_, hr4⟩ := small_of hr3 (by simp)
        obtain ⟨_, hr5⟩ := cond_of hr4 (by simp)
        exact appR_st ok hr5
      · exact cpyR_st ok (show cpyR _ _ _ _ = _ from h)
      · exact clrR_st ok (show clrR _ _ _ _ = _ from h)
    · rw [h] at he; exact he.elim
  · cases i <;> first | (cases hk; done) | skip
    rename_i f args
    rcases step_call f args fr L s with ⟨g, cs, _, h⟩ | h
    · refine ⟨fun h' => ?_, fun h' => ?_, fun h' => ?_⟩ <;> rw [h] at h' <;> cases h'
      rfl
    · refine ⟨fun h' => ?_, fun h' => ?_, fun h' => ?_⟩ <;> rw [h] at h' <;> cases h'

theorem addW_spec (base : Nat) (wd : List Nat) : ∀ (W : List Nat) (x : Nat), x ∈ addW base W wd ↔ (x ∈ W ∧ x < base) ∨ x ∈ wd
  | [], x => by simp [show addW base [] wd = wd from rfl]
  | y :: W, x => by
    rw [show addW base (y :: W) wd = (bif Nat.blt y base then y :: addW base W wd else addW base W wd) from rfl]
    cases hb : Nat.blt y base with
    | true =>
      have := nblt_iff.1 hb
      simp only [cond_true, List.mem_cons, addW_spec base wd W x]
      constructor
      · rintro (rfl | h | h)
        · exact .inl ⟨.inl rfl, this⟩
        · exact .inl ⟨.inr h.1, h.2⟩
        · exact .inr h
      · rintro (⟨rfl | h, h2⟩ | h)
        · exact .inl rfl
        · exact .inr (.inl ⟨h, h2⟩)
        · exact .inr (.inr h)
    | false =>
      have : ¬ y < base := fun h => by rw [nblt_iff.2 h] at hb; cases hb
      simp only [cond_false, List.mem_cons, addW_spec base wd W x]
      constructor
      · rintro (h | h)
        · exact .inl ⟨.inr h.1, h.2⟩
        · exact .inr h
      · rintro (⟨rfl | h, h2⟩ | h)
        · exact absurd h2 this
        · exact .inl ⟨h, h2⟩
        · exact .inr h

/-! ### Calls -/
/-- A call has returned this value. -/
def RetOk (B : Nat) (m : LM) (K : Nat → Prop) (h : HF) (w : World) (a : Nat) (W : List Nat) (s' : St) (v : AV) : Ending → World → Prop
  | .returned u, w' => ∃ m' h', VR m' (Kx K a s'.nxt) u v ∧ Pst B a s'.nxt W m K h w m' h' w' ∧ Sub s' h'
  | _, _ => False
/-- What the small code says of a call holds of the model's. -/
def CallOk (P : Program) (call : Nat → List AV → St → RF) : Prop :=
  ∀ f args s v s' W, call f args s = .ok v s' W → OKs s → StOk s s' W ∧ (∃ fn, Enters P f fn) ∧
    ∀ B m K h w vs, VRL m K vs args → HR B m K h w → Sub s h → Fr K s.nxt s'.nxt →
      Calls P f ⟨vs⟩ w (RetOk B m K h w s.nxt W s' v)

/-! ### One operation more -/
section
variable (call : Nat → List AV → St → RF) (base : Nat) (fr : Tr)

theorem evOps_nil (L : List AV) (s : St) : evOps call base [] fr L s = .ok L s := rfl
theorem evOps_cons {o : O} {os : List O} {L Lf : List AV} {s sf : St} (h : evOps call base (o :: os) fr L s = .ok Lf sf) :
    (wanted o.g fr L = some false ∧ evOps call base os fr (.tup [] :: L) s = .ok Lf sf) ∨ (wanted o.g fr L = some true ∧
      ((∃ v s1, step o.i fr L s = .val v s1 ∧ evOps call base os fr (v :: L) s1 = .ok Lf sf) ∨
       (∃ v s1 W, step o.i fr L s = .eff v s1 W ∧ evOps call base os fr (v :: L) ⟨s1.heap, s1.nxt, addW base W s1.wd⟩ = .ok Lf sf) ∨
       (∃ f args s1 v s2 W, step o.i fr L s = .call f args s1 ∧ call f args s1 = .ok v s2 W ∧ evOps call base os fr (v :: L) ⟨s2.heap, s2.nxt, addW base W s2.wd⟩ = .ok Lf sf))) := by
  change Option.casesOn (motive := fun _ => RO) (wanted o.g fr L) .no (fun t => Bool.casesOn (motive := fun _ => RO) t (evOps call base os fr (.tup [] :: L) s)
      (R.casesOn (motive := fun _ => RO) (step o.i fr L s) .no
        (fun v s => evOps call base os fr (v :: L) s)
        (fun v s w => evOps call base os fr (v :: L) ⟨s.heap, s.nxt, addW base w s.wd⟩)
        (fun f args s => RF.casesOn (motive := fun _ => RO) (call f args s) .no (fun v s w => evOps call base os fr (v :: L) ⟨s.heap, s.nxt, addW base w s.wd⟩)))) = .ok Lf sf at h
  cases hw : wanted o.g fr L with
  | none => rw [hw] at h; cases h
  | some t =>
    rw [hw] at h
    cases t with
    | false => exact .inl ⟨rfl, h⟩
    | true =>
      refine .inr ⟨rfl, ?_⟩
      cases hs : step o.i fr L s with
      | no => rw [hs] at h; cases h
      | val v s1 => rw [hs] at h; exact .inl ⟨v, s1, rfl, h⟩
      | eff v s1 W => rw [hs] at h; exact .inr (.inl ⟨v, s1, W, rfl, h⟩)
      | call f args s1 =>
        rw [hs] at h
        cases hc : call f args s1 with
        | no => simp only [hc] at h; cases h
        | ok v s2 W => simp only [hc] at h; exact .inr (.inr ⟨f, args, s1, v, s2, W, rfl, hc, h⟩)

variable {call}
/-- What a stretch of code leaves of the state; 'base': where the function's own objects begin. -/
structure Fra (base : Nat) (s s' : St) : Prop where
  ok : OKs s'
  le : s.nxt ≤ s'.nxt
  wd : ∀ id ∈ s.wd, id ∈ s'.wd
  frame : ∀ id d, id < base → id ∉ s'.wd → get s'.heap id = some d → get s.heap id = some d
theorem Fra.refl {base : Nat} {s : St} (ok : OKs s) : Fra base s s := ⟨ok, Nat.le_refl _, fun _ h => h, fun _ _ _ _ h => h⟩
theorem Fra.trans {base : Nat} {s1 s2 s3 : St} (x : Fra base s1 s2) (y : Fra base s2 s3) : Fra base s1 s3 :=
  ⟨y.ok, Nat.le_trans x.le y.le, fun id h => y.wd id (x.wd id h), fun id d h1 h2 h => x.frame id d h1 (fun h' => h2 (y.wd id h')) (y.frame id d h1 h2 h)⟩
theorem StOk.fra {base : Nat} {s s' : St} {W : List Nat} (x : StOk s s' W) (hb : base ≤ s.nxt) : Fra base s ⟨s'.heap, s'.nxt, addW base W s'.wd⟩ := by
  obtain ⟨h1, h2, h3, h4⟩ := x
  refine ⟨⟨h1.desc, h1.lt⟩, h2, fun id h => (addW_spec _ _ _ _).2 (.inr (h3 ▸ h)), fun id d g1 g2 g3 => h4 id d (by omega) (fun hw => g2 ((addW_spec _ _ _ _).2 (.inl ⟨hw, g1⟩))) g3⟩
theorem StOk.fra0 {base : Nat} {s s' : St} (x : StOk s s' []) (hb : base ≤ s.nxt) : Fra base s s' := by
  have := x.fra hb
  exact this
theorem evOps_st {P : Program} (hc : CallOk P call) : ∀ (os : List O) {L Lf : List AV} {s sf : St}, evOps call base os fr L s = .ok Lf sf → OKs s → base ≤ s.nxt → Fra base s sf
  | [], L, Lf, s, sf, h, ok, hb => by cases h; exact .refl ok
  | o :: os, L, Lf, s, sf, h, ok, hb => by
    rcases evOps_cons call base fr h with ⟨_, h1⟩ | ⟨_, ⟨v, s1, h1, h2⟩ | ⟨v, s1, W, h1, h2⟩ | ⟨f, args, s1, v, s2, W, h1, h2, h3⟩⟩
    · exact evOps_st hc os h1 ok hb
    · have q := ((step_st ok).1 h1).fra0 hb
      exact q.trans (evOps_st hc os h2 q.ok (Nat.le_trans hb q.le))
    · have q := ((step_st ok).2.1 h1).fra hb
      exact q.trans (evOps_st hc os h2 q.ok (Nat.le_trans hb q.le))
    · have := (step_st ok).2.2 h1
      subst this
      have q := (hc _ _ _ _ _ _ h2 ok).1.fra hb
      exact q.trans (evOps_st hc os h3 q.ok (Nat.le_trans hb q.le))
end

/-! ### Temporaries -/
def E.ok (cnt : Nat) : E → Prop
  | .abs n => n < cnt
  | .al (.l _) => False
  | .al _ => True
theorem E.ok_succ {cnt : Nat} {e : E} (h : e.ok cnt) : e.ok (cnt + 1) := by
  cases e with
  | abs n => exact Nat.lt_succ_of_lt h
  | al x => cases x <;> exact h
theorem toX_succ {cnt : Nat} {e : E} (h : e.ok cnt) (fr : Tr) (L : List AV) (c : AV) : rd (toX (cnt + 1) e) fr (c :: L) = rd (toX cnt e) fr L := by
  cases e with
  | abs n =>
    have h' : n < cnt := h
    show nth (c :: L) (cnt + 1 - 1 - n) = nth L (cnt - 1 - n)
    rw [show cnt + 1 - 1 - n = (cnt - 1 - n) + 1 by omega]
    rfl
  | al x => cases x <;> first | rfl | exact h.elim

theorem look2_cons {α : Type} (k : Nat) (a : α) (l : List (Nat × α)) (t : Nat) : look2 ((k, a) :: l) t = if k = t then some a else look2 l t := by
  show (bif Nat.beq k t then some a else look2 l t) = _
  by_cases e : k = t
  · subst e; simp
  · rw [nbeq_ne e]; simp [e]

/-- The temporaries of 'l' hold what the small code says. -/
structure UseR (ps : PS) (v : Env) (m : LM) (K : Nat → Prop) (fr : Tr) (L : List AV) (a : Act) (l : List Nat) : Prop where
  val : ∀ t ∈ l, ∀ e, cTmp ps v t = some e → VR m K (a.tmps.getD t undef) (rd (toX v.cnt e) fr L)

structure TmpR (ps : PS) (v : Env) (m : LM) (K : Nat → Prop) (fr : Tr) (L : List AV) (a : Act) : Prop where
  size : v.nt ≤ a.tmps.size
  ok : ∀ t e, look2 v.l t = some e → e.ok v.cnt
  val : ∀ t e, cTmp ps v t = some e → VR m K (a.tmps.getD t undef) (rd (toX v.cnt e) fr L)
  noDefers : a.defers = []
theorem TmpR.use {ps : PS} {v : Env} {m : LM} {K : Nat → Prop} {fr : Tr} {L : List AV} {a : Act} (x : TmpR ps v m K fr L a) (l : List Nat) : UseR ps v m K fr L a l := ⟨fun t _ e h => x.val t e h⟩

theorem cTmp_ok {ps : PS} {v : Env} (hok : ∀ t e, look2 v.l t = some e → e.ok v.cnt) {t : Nat} {e : E} (h : cTmp ps v t = some e) : e.ok v.cnt := by
  unfold cTmp at h
  split at h
  · rename_i e' he; cases h; exact hok t _ he
  · split at h
    · cases h; exact True.intro
    · cases h
theorem cE_ok {ps : PS} {v : Env} (hok : ∀ t e, look2 v.l t = some e → e.ok v.cnt) {x : Operand} {e : E} (h : cE ps v x = some e) : e.ok v.cnt := by
  cases x with
  | tmp t => exact cTmp_ok hok h
  | const c => obtain ⟨_, h⟩ := bif_some (show (bif okV (absV c) then some (E.al (.c (absV c))) else none) = some e from h); cases h; exact True.intro
  | global g => cases h
  | func f => cases h; exact True.intro

theorem UseR.ofE {ps : PS} {v : Env} {m : LM} {K : Nat → Prop} {fr : Tr} {L : List AV} {a : Act} {l : List Nat} (x : UseR ps v m K fr L a l) {y : Operand} (hy : ∀ t, y = .tmp t → t ∈ l) {e : E} (h : cE ps v y = some e) : VR m K (a.eval y) (rd (toX v.cnt e) fr L) := by
  cases y with
  | tmp t => exact x.val t (hy t rfl) e h
  | const c => obtain ⟨_, h⟩ := bif_some (show (bif okV (absV c) then some (E.al (.c (absV c))) else none) = some e from h); cases h; exact absV_ok m K c
  | global g => cases h
  | func f => cases h; exact .fn f [] [] .nil

theorem UseR.env {ps : PS} {v : Env} {m : LM} {K : Nat → Prop} {fr : Tr} {L : List AV} {a : Act} {ops : Array Oper} {o : Oper} (x : UseR ps v m K fr L a (usesOf ops o)) : EnvR a.eval ps v m K fr L o.op.operands.toList := by
  intro y hy b hb
  obtain ⟨e, he, rfl⟩ := map_some' (show (cE ps v y).map (toX v.cnt) = some b from hb)
  refine x.ofE (fun t ht => ?_) he
  subst ht
  unfold usesOf
  refine List.mem_append_left _ ?_
  unfold tmpsOf
  exact List.mem_filterMap.2 ⟨.tmp t, hy, rfl⟩

theorem TmpR.mono {ps : PS} {v : Env} {m m' : LM} {K K' : Nat → Prop} {fr : Tr} {L : List AV} {a : Act} (x : TmpR ps v m K fr L a) (hK : ∀ id, K id → K' id) (hm : ∀ id, K id → m' id = m id) : TmpR ps v m' K' fr L a :=
  ⟨x.size, x.ok, fun t e h => (x.val t e h).mono hK hm, x.noDefers⟩

theorem put_size (a : Act) (d : Option Tmp) (u : Value) : (a.put d u).tmps.size = a.tmps.size := by cases d <;> simp [Act.put]
theorem put_defers (a : Act) (d : Option Tmp) (u : Value) : (a.put d u).defers = a.defers := by cases d <;> rfl
theorem put_get (a : Act) (d : Nat) (u : Value) (hd : d < a.tmps.size) (t : Nat) : (a.put (some d) u).tmps.getD t undef = if t = d then u else a.tmps.getD t undef := by
  simp only [Act.put, Array.getD_eq_getD_getElem?]
  by_cases e : t = d
  · subst e; simp [hd]
  · rw [if_neg e, Array.getElem?_setIfInBounds_ne (fun h => e h.symm)]

/-- One value more, at this temporary. -/
def dstE (dst : Option Tmp) (v : Env) : Env := ⟨(match dst with | some d => (d, .abs v.cnt) :: v.l | none => v.l), v.cnt + 1, v.nt⟩
/-- A value at the operation's own temporary. -/
theorem TmpR.put {ps : PS} {v : Env} {m : LM} {K : Nat → Prop} {fr : Tr} {L : List AV} {a : Act} (x : TmpR ps v m K fr L a) {dst : Option Tmp} (hd : ∀ d, dst = some d → d < v.nt) {u : Value} {c : AV} (hu : VR m K u c) :
    TmpR ps (dstE dst v) m K fr (c :: L) (a.put dst u) := by
  unfold dstE
  refine ⟨by rw [put_size]; exact x.size, fun t e h => ?_, fun t e h => ?_, by rw [put_defers]; exact x.noDefers⟩
  · cases dst with
    | none => exact E.ok_succ (x.ok t e h)
    | some d =>
      have h' := h
      simp only [look2_cons] at h'
      split at h'
      · cases h'; exact Nat.lt_succ_self _
      · exact E.ok_succ (x.ok t e h')
  · cases dst with
    | none =>
      have h' : cTmp ps v t = some e := h
      rw [show (⟨v.l, v.cnt + 1, v.nt⟩ : Env).cnt = v.cnt + 1 from rfl]
      rw [toX_succ (cTmp_ok x.ok h')]
      exact x.val t e h'
    | some d =>
      have hd' := Nat.lt_of_lt_of_le (hd d rfl) x.size
      rw [put_get a d u hd']
      by_cases e1 : t = d
      · subst e1
        have h' : cTmp ps ⟨(t, .abs v.cnt) :: v.l, v.cnt + 1, v.nt⟩ t = some e := h
        unfold cTmp at h'
        simp only [look2_cons, if_true] at h'
        cases h'
        rw [if_pos rfl]
        have : rd (toX (v.cnt + 1) (.abs v.cnt)) fr (c :: L) = c := by
          show nth (c :: L) (v.cnt + 1 - 1 - v.cnt) = c
          rw [show v.cnt + 1 - 1 - v.cnt = 0 by omega]; rfl
        simp only
        rw [this]; exact hu
      · have h' : cTmp ps v t = some e := by
          have h2 : cTmp ps ⟨(d, .abs v.cnt) :: v.l, v.cnt + 1, v.nt⟩ t = some e := h
          unfold cTmp at h2 ⊢
          simp only [look2_cons, if_neg (fun h => e1 h.symm : ¬ d = t)] at h2
          exact h2
        rw [if_neg e1]
        simp only
        rw [toX_succ (cTmp_ok x.ok h')]
        exact x.val t e h'
/-- A move. -/
theorem TmpR.alias {ps : PS} {v : Env} {m : LM} {K : Nat → Prop} {fr : Tr} {L : List AV} {a : Act} (x : TmpR ps v m K fr L a) {d : Nat} (hd : d < v.nt) {y : Operand} {e : E} (he : cE ps v y = some e) :
    TmpR ps ⟨(d, e) :: v.l, v.cnt, v.nt⟩ m K fr L (a.put (some d) (a.eval y)) := by
  have hd' := Nat.lt_of_lt_of_le hd x.size
  refine ⟨by rw [put_size]; exact x.size, fun t e' h => ?_, fun t e' h => ?_, by rw [put_defers]; exact x.noDefers⟩
  · have h' := h
    simp only [look2_cons] at h'
    split at h'
    · cases h'; exact cE_ok x.ok he
    · exact x.ok t e' h'
  · rw [put_get a d _ hd']
    by_cases e1 : t = d
    · subst e1
      have h' : cTmp ps ⟨(t, e) :: v.l, v.cnt, v.nt⟩ t = some e' := h
      unfold cTmp at h'
      simp only [look2_cons, if_true] at h'
      cases h'
      rw [if_pos rfl]
      exact (x.use [match y with | .tmp t => t | _ => 0]).ofE (fun t ht => by subst ht; exact List.mem_cons_self) he
    · have h' : cTmp ps v t = some e' := by
        have h2 : cTmp ps ⟨(d, e) :: v.l, v.cnt, v.nt⟩ t = some e' := h
        unfold cTmp at h2 ⊢
        simp only [look2_cons, if_neg (fun h => e1 h.symm : ¬ d = t)] at h2
        exact h2
      rw [if_neg e1]
      exact x.val t e' h'
end Go.Pal
