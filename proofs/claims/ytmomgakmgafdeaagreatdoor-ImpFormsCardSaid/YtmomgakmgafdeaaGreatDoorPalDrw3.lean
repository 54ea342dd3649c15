/-
  A region whose order is open: what holds along the small code's way.
-/
import Derived.Test.YtmomgakmgafdeaaGreatDoorPalDrw2
namespace Go.Pal
open Go.RowKit

theorem isEff_kind {T : TT} {ps : PS} {v : Env} {o : Oper} {i : I} (hi : cIns T ps v o.op = some i) (he : isEff o = false) : i.kind = 0 := by
  obtain ⟨dst, op, type, pos, after, guard⟩ := o
  simp only at hi
  cases op with
  | store _ _ _ => cases he
  | call cl =>
    obtain ⟨callee, as, tys⟩ := cl
    obtain ⟨as⟩ := as
    cases callee with
    | invoke _ _ => cases hi
    | value g => cases he
    | builtin b =>
      cases b <;> (rcases as with _ | ⟨a, _ | ⟨b, _ | ⟨d, args⟩⟩⟩) <;> first | (cases hi; done) | (cases he; done) | skip
      all_goals simp only [cIns] at hi
      all_goals
        revert hi
        repeat' split
        all_goals (intro hi; first | (cases hi; done) | (obtain ⟨_, _, _, _, rfl⟩ := x2_spec hi; rfl) | (obtain ⟨_, _, rfl⟩ := x1_spec hi; rfl) | (cases hi; rfl))
  | unOp op t a =>
    cases op <;> first | (cases hi; done) | skip
    obtain ⟨y, hy, rfl⟩ := x1_spec (show x1 ps v a .not = _ from hi)
    rfl
  | makeFunc f first cs =>
    obtain ⟨first⟩ := first
    cases f <;> cases first <;> first | (cases hi; done) | skip
    rename_i f
    obtain ⟨as, has, rfl⟩ := map_some' (show (cXs ps v cs.toList).map (.mkf f) = some i from hi)
    rfl
  | _ =>
    all_goals
      revert hi
      simp only [cIns]
      repeat' split
      all_goals (intro hi; first | (cases hi; done) | (obtain ⟨_, _, _, _, rfl⟩ := x2_spec hi; rfl) | (obtain ⟨_, _, rfl⟩ := x1_spec hi; rfl) | (obtain ⟨_, _, _, _, _, _, rfl⟩ := x3_spec hi; rfl) | (obtain ⟨_, _, rfl⟩ := map_some' hi; rfl) | (cases hi; rfl) | (obtain ⟨_, hi⟩ := bif_some hi; first | (obtain ⟨_, _, rfl⟩ := x1_spec hi; rfl) | (obtain ⟨_, _, _, _, rfl⟩ := x2_spec hi; rfl) | (obtain ⟨_, _, rfl⟩ := map_some' hi; rfl) | (cases hi; rfl)))

section
variable {P : Program} {T : TT} {ps : PS} {ops : Array Oper} {call : Nat → List AV → St → RF} {base : Nat} {fr : Tr}

theorem stp_st (hc : CallOk P call) {ok : List Nat → Prop} {o : Oper} {x y : DSt} {W : List Nat} (h : Stp T ps ops call base fr ok o x y W) (hok : OKs x.s) (hb : base ≤ x.s.nxt) :
    Fra base x.s y.s ∧ ∀ id c, id < x.s.nxt → id ∉ W → get y.s.heap id = some c → get x.s.heap id = some c := by
  obtain ⟨r, h1, ⟨_, _, h2, _⟩ | ⟨oo, c, _, _, ⟨_, _, h2, _⟩ | ⟨_, _, ⟨h2, rfl⟩ | ⟨s1, h2, h3⟩ | ⟨f, args, s1, s2, h2, h3, h4⟩⟩⟩⟩ := h
  · rw [h2]; exact ⟨.refl hok, fun _ _ _ _ h => h⟩
  · rw [h2]; exact ⟨.refl hok, fun _ _ _ _ h => h⟩
  · have q := (step_st hok).1 h2
    exact ⟨q.fra0 hb, q.2.2.2⟩
  · have q := (step_st hok).2.1 h2
    rw [h3]
    exact ⟨q.fra hb, q.2.2.2⟩
  · have := (step_st hok).2.2 h2
    subst this
    have q := (hc _ _ _ _ _ _ h3 hok).1
    rw [h4]
    exact ⟨q.fra hb, q.2.2.2⟩

/-- An operation that is no effect writes nothing. -/
theorem stp_pure {ok : List Nat → Prop} {o : Oper} {x y : DSt} {W : List Nat} (h : Stp T ps ops call base fr ok o x y W) (he : isEff o = false) : W = [] ∧ (y.s = x.s ∨ ∃ l, y.s = ⟨(x.s.nxt, l) :: x.s.heap, Nat.succ x.s.nxt, x.s.wd⟩) := by
  obtain ⟨r, h1, ⟨_, _, h2, h3⟩ | ⟨oo, c, hr, _, ⟨_, _, h2, h3⟩ | ⟨_, _, hcase⟩⟩⟩ := h
  · exact ⟨h3, .inl h2⟩
  · exact ⟨h3, .inl h2⟩
  · subst hr
    have hk : oo.i.kind = 0 := by
      rcases cOper_spec h1 with ⟨_, _, _, _, _, _, _, g, _⟩ | ⟨g, g1, _⟩
      · cases g
      · cases g1
        cases hins : cIns T ps x.v o.op with
        | none => rfl
        | some i => exact isEff_kind hins he
    have hv := step_isV oo.i fr x.L x.s hk
    rcases hcase with ⟨h2, h3⟩ | ⟨s1, h2, h3⟩ | ⟨f, args, s1, s2, h2, h3, h4⟩
    · rw [h2] at hv; exact ⟨h3, hv⟩
    · rw [h2] at hv; exact hv.elim
    · rw [h2] at hv; exact hv.elim

/-- The environments along the way. -/
theorem stp_env {ok : List Nat → Prop} {o : Oper} {x y : DSt} {W : List Nat} (h : Stp T ps ops call base fr ok o x y W) (hok : ∀ t e, look2 x.v.l t = some e → e.ok x.v.cnt) :
    (∀ t e, look2 y.v.l t = some e → e.ok y.v.cnt) ∧ y.v.nt = x.v.nt ∧ (∀ d, o.dst = some d → d < x.v.nt) ∧
    (∀ t, o.dst ≠ some t → look2 y.v.l t = look2 x.v.l t) ∧ (∀ t, o.dst = some t → ∃ e, look2 y.v.l t = some e) ∧
    (∀ e : E, e.ok x.v.cnt → rd (toX y.v.cnt e) fr y.L = rd (toX x.v.cnt e) fr x.L) := by
  obtain ⟨r, h1, h2⟩ := h
  rcases cOper_spec h1 with ⟨yy, d, e, g1, g2, g3, g4, g5, g6⟩ | ⟨g, g1, g2, g3, g4⟩
  · subst g5
    have hL : y.L = x.L := by
      rcases h2 with ⟨_, h2, _⟩ | ⟨_, _, h2, _⟩
      · exact h2
      · cases h2
    rw [g6, hL]
    refine ⟨fun t e' h => ?_, rfl, fun d' hd => by rw [g2] at hd; cases hd; exact g3, fun t ht => ?_, fun t ht => ?_, fun _ _ => rfl⟩
    · simp only [look2_cons] at h
      split at h
      · cases h; exact cE_ok hok g4
      · exact hok t e' h
    · simp only [look2_cons]
      rw [if_neg (fun hh => ht (by rw [g2, hh]))]
    · rw [g2] at ht
      cases ht
      exact ⟨e, by simp only [look2_cons, if_true]⟩
  · subst g1
    obtain ⟨c, hL⟩ : ∃ c, y.L = c :: x.L := by
      rcases h2 with ⟨h2, _⟩ | ⟨_, c, _, h2, _⟩
      · cases h2
      · exact ⟨c, h2⟩
    rw [g2, hL]
    refine ⟨fun t e' h => ?_, rfl, g3, fun t ht => ?_, fun t ht => ?_, fun e he => toX_succ he fr x.L c⟩
    · unfold dstEnv dstE at h
      cases hd : o.dst with
      | none => rw [hd] at h; exact E.ok_succ (hok t e' h)
      | some d =>
        rw [hd] at h
        simp only [look2_cons] at h
        split at h
        · cases h; exact Nat.lt_succ_self _
        · exact E.ok_succ (hok t e' h)
    · unfold dstEnv dstE
      cases hd : o.dst with
      | none => rfl
      | some d =>
        simp only [look2_cons]
        rw [if_neg (fun hh => ht (by rw [hd, hh]))]
    · unfold dstEnv dstE
      rw [ht]
      exact ⟨.abs x.v.cnt, by simp only [look2_cons, if_true]⟩
end

theorem nodup_inj : ∀ {l : List Nat}, l.Nodup → ∀ (k k' : Nat) {j : Nat}, l[k]? = some j → l[k']? = some j → k = k'
  | [], _, k, k', j, h, _ => by simp at h
  | a :: l, hn, k, k', j, h, h' => by
    obtain ⟨h1, h2⟩ := List.nodup_cons.1 hn
    cases k with
    | zero =>
      cases k' with
      | zero => rfl
      | succ k' =>
        simp at h h'
        subst h
        exact absurd (List.mem_of_getElem? h') h1
    | succ k =>
      cases k' with
      | zero =>
        simp at h h'
        subst h'
        exact absurd (List.mem_of_getElem? h) h1
      | succ k' =>
        simp at h h'
        rw [nodup_inj h2 k k' h h']

/-- All that is known of the way. -/
structure Facts (T : TT) (ps : PS) (ops : Array Oper) (call : Nat → List AV → St → RF) (base : Nat) (fr : Tr) (an l : List Nat) (d : Nat → DSt) (W : Nat → List Nat) (hs : Nat → Hist) : Prop where
  ord : Ord ops an l
  way : Way T ps ops call base fr an l d W hs
  ok : ∀ k, k ≤ l.length → OKs (d k).s ∧ base ≤ (d k).s.nxt
  eok : ∀ k, k ≤ l.length → ∀ t e, look2 (d k).v.l t = some e → e.ok (d k).v.cnt
  nt : ∀ k, k ≤ l.length → (d k).v.nt = (d 0).v.nt

theorem facts_of {P : Program} {T : TT} {ps : PS} {ops : Array Oper} {call : Nat → List AV → St → RF} (hc : CallOk P call) {base : Nat} {fr : Tr} {an l : List Nat} {d : Nat → DSt} {W : Nat → List Nat} {hs : Nat → Hist} (ord : Ord ops an l) (way : Way T ps ops call base fr an l d W hs)
    (h0 : OKs (d 0).s ∧ base ≤ (d 0).s.nxt) (h1 : (d 0).v.l = []) : Facts T ps ops call base fr an l d W hs := by
  have key : ∀ k, k ≤ l.length → (OKs (d k).s ∧ base ≤ (d k).s.nxt) ∧ (∀ t e, look2 (d k).v.l t = some e → e.ok (d k).v.cnt) ∧ (d k).v.nt = (d 0).v.nt := by
    intro k
    induction k with
    | zero => intro _; exact ⟨h0, (fun t e h => by rw [h1] at h; cases h), rfl⟩
    | succ k ih =>
      intro hk
      obtain ⟨⟨g1, g2⟩, g3, g4⟩ := ih (by omega)
      obtain ⟨j, hj⟩ : ∃ j, l[k]? = some j := ⟨l[k], List.getElem?_eq_getElem (by omega)⟩
      obtain ⟨o, ho, hst, _⟩ := way.stp k j hj
      have q := (stp_st hc hst g1 g2).1
      obtain ⟨e1, e2, _⟩ := stp_env hst g3
      exact ⟨⟨q.ok, Nat.le_trans g2 q.le⟩, e1, e2.trans g4⟩
  exact ⟨ord, way, fun k hk => (key k hk).1, fun k hk => (key k hk).2.1, fun k hk => (key k hk).2.2⟩

section
variable {P : Program} {T : TT} {ps : PS} {ops : Array Oper} {call : Nat → List AV → St → RF} {base : Nat} {fr : Tr} {an l : List Nat} {d : Nat → DSt} {W : Nat → List Nat} {hs : Nat → Hist}

theorem Facts.at (x : Facts T ps ops call base fr an l d W hs) {k : Nat} (hk : k < l.length) : ∃ j o, l[k]? = some j ∧ ops[j]? = some o ∧ Stp T ps ops call base fr (histOk an j (hs k)) o (d k) (d (k + 1)) (W k) := by
  obtain ⟨o, h1, h2, _⟩ := x.way.stp k l[k] (List.getElem?_eq_getElem hk)
  exact ⟨_, o, List.getElem?_eq_getElem hk, h1, h2⟩
theorem Facts.fra (hc : CallOk P call) (x : Facts T ps ops call base fr an l d W hs) : ∀ n k, k + n ≤ l.length → Fra base (d k).s (d (k + n)).s
  | 0, k, hk => .refl (x.ok k hk).1
  | n + 1, k, hk => by
    obtain ⟨j, o, _, _, hst⟩ := x.at (k := k + n) (by omega)
    have q := x.ok (k + n) (by omega)
    exact (x.fra hc n k (by omega)).trans (stp_st hc hst q.1 q.2).1
theorem Facts.mono (hc : CallOk P call) (x : Facts T ps ops call base fr an l d W hs) {k k' : Nat} (h : k ≤ k') (hk : k' ≤ l.length) : (d k).s.nxt ≤ (d k').s.nxt := by
  have := (x.fra hc (k' - k) k (by omega)).le
  rwa [show k + (k' - k) = k' by omega] at this
/-- A place holds one operation. -/
theorem Facts.inj (x : Facts T ps ops call base fr an l d W hs) {k k' j : Nat} (h : l[k]? = some j) (h' : l[k']? = some j) : k = k' := nodup_inj x.ord.nodup k k' h h'
/-- Who writes a temporary. -/
theorem Facts.writer (x : Facts T ps ops call base fr an l d W hs) (h0 : (d 0).v.l = []) : ∀ k, k ≤ l.length → ∀ t e, look2 (d k).v.l t = some e → ∃ k' j o, k' < k ∧ l[k']? = some j ∧ ops[j]? = some o ∧ o.dst = some t
  | 0, _, t, e, h => by rw [h0] at h; cases h
  | k + 1, hk, t, e, h => by
    obtain ⟨j, o, hj, ho, hst⟩ := x.at (k := k) (by omega)
    obtain ⟨_, _, _, e1, _, _⟩ := stp_env hst (x.eok k (by omega))
    by_cases hd : o.dst = some t
    · exact ⟨k, j, o, Nat.lt_succ_self _, hj, ho, hd⟩
    · rw [e1 t hd] at h
      obtain ⟨k', j', o', g1, g2⟩ := x.writer h0 k (by omega) t e h
      exact ⟨k', j', o', by omega, g2⟩
/-- What is known of a temporary stays. -/
theorem Facts.stab (x : Facts T ps ops call base fr an l d W hs) (h0 : (d 0).v.l = []) : ∀ n k, k + n ≤ l.length → ∀ t e, look2 (d k).v.l t = some e → look2 (d (k + n)).v.l t = some e ∧ rd (toX (d (k + n)).v.cnt e) fr (d (k + n)).L = rd (toX (d k).v.cnt e) fr (d k).L
  | 0, k, hk, t, e, h => ⟨h, rfl⟩
  | n + 1, k, hk, t, e, h => by
    obtain ⟨g1, g2⟩ := x.stab h0 n k (by omega) t e h
    obtain ⟨j, o, hj, ho, hst⟩ := x.at (k := k + n) (by omega)
    obtain ⟨_, _, _, e1, _, e2⟩ := stp_env hst (x.eok (k + n) (by omega))
    have hd : o.dst ≠ some t := fun hd => by
      obtain ⟨k', j', o', q1, q2, q3, q4⟩ := x.writer h0 k (by omega) t e h
      have hne : j' ≠ j := fun hh => by
        subst hh
        have := x.inj q2 hj
        omega
      exact (x.ord.one j' j o' o t q3 ho q4 hne).1 hd
    refine ⟨(e1 t hd).trans g1, (e2 e (x.eok _ (by omega) t e g1)).trans g2⟩
theorem Facts.written (x : Facts T ps ops call base fr an l d W hs) (h0 : (d 0).v.l = []) {k j t : Nat} {o : Oper} (hj : l[k]? = some j) (ho : ops[j]? = some o) (hd : o.dst = some t) {k' : Nat} (h1 : k < k') (h2 : k' ≤ l.length) : ∃ e, look2 (d k').v.l t = some e := by
  have hk := (List.getElem?_eq_some_iff.1 hj).1
  obtain ⟨j', o', hj', ho', hst⟩ := x.at hk
  rw [hj] at hj'
  cases hj'
  rw [ho] at ho'
  cases ho'
  obtain ⟨_, _, _, _, e2, _⟩ := stp_env hst (x.eok k (by omega))
  obtain ⟨e, he⟩ := e2 t hd
  have := (x.stab h0 (k' - (k + 1)) (k + 1) (by omega) t e he).1
  rw [show k + 1 + (k' - (k + 1)) = k' by omega] at this
  exact ⟨e, this⟩
/-- What has been written is in the history. -/
theorem Facts.hist (x : Facts T ps ops call base fr an l d W hs) {k j : Nat} {o : Oper} (hj : l[k]? = some j) (ho : ops[j]? = some o) (he : isEff o = true) : ∀ n, k + 1 + n ≤ l.length → (j, W k) ∈ hs (k + 1 + n)
  | 0, hk => by
    obtain ⟨o', ho', _, h⟩ := x.way.stp k j hj
    rw [ho] at ho'
    cases ho'
    rw [Nat.add_zero, h, he]
    exact List.mem_cons_self
  | n + 1, hk => by
    have ih := x.hist hj ho he n (by omega)
    have hk' : k + 1 + n < l.length := by omega
    obtain ⟨o', _, _, h⟩ := x.way.stp (k + 1 + n) l[k + 1 + n] (List.getElem?_eq_getElem hk')
    rw [show k + 1 + (n + 1) = k + 1 + n + 1 by omega, h]
    cases isEff o'
    · exact ih
    · exact List.mem_cons_of_mem _ ih
end
end Go.Pal
