/-
  A region whose order is open: whatever comes next, the small code's way tells what comes of it.
-/
import Derived.Test.YtmomgakmgafdeaaGreatDoorPalDrw3
namespace Go.Pal
open Go.RowKit

theorem isEff_kind' {T : TT} {ps : PS} {v : Env} {o : Oper} {i : I} (hi : cIns T ps v o.op = some i) (he : isEff o = true) : i.kind ≠ 0 := by
  obtain ⟨dst, op, type, pos, after, guard⟩ := o
  simp only at hi
  cases op with
  | store t a b =>
    simp only [cIns] at hi
    split at hi
    · obtain ⟨_, _, _, _, rfl⟩ := x2_spec hi; simp [I.kind]
    · cases hi
  | call cl =>
    obtain ⟨callee, as, tys⟩ := cl
    obtain ⟨as⟩ := as
    cases callee with
    | invoke _ _ => cases hi
    | value g =>
      simp only [cIns] at hi
      split at hi
      · cases hi; simp [I.kind]
      · cases hi
    | builtin b =>
      cases b <;> (rcases as with _ | ⟨a, _ | ⟨b, _ | ⟨d, args⟩⟩⟩) <;> first | (cases hi; done) | (cases he; done) | skip
      all_goals simp only [cIns] at hi
      all_goals
        revert hi
        repeat' split
        all_goals (intro hi; first | (cases hi; done) | (obtain ⟨_, _, _, _, rfl⟩ := x2_spec hi; simp [I.kind]) | (obtain ⟨_, _, rfl⟩ := x1_spec hi; simp [I.kind]))
  | _ => cases he

theorem idOf_known {m : LM} {K : Nat → Prop} {u : Value} {a : AV} (h : VR m K u a) : ∀ id ∈ idOf a [], K id := by
  intro id hid
  cases h <;> first | (cases hid; done) | skip
  all_goals
    rcases List.mem_cons.1 hid with rfl | hid
    · assumption
    · cases hid

/-- Who reads an object knows it. -/
theorem ins_reads {T : TT} {ps : PS} {v : Env} {o : Oper} {i : I} (hi : cIns T ps v o.op = some i) {ρ : Operand → Value} {m : LM} {K : Nat → Prop} {fr : Tr} {L : List AV} (hρ : EnvR ρ ps v m K fr L o.op.operands.toList) : ∀ id ∈ reads i fr L, K id := by
  obtain ⟨dst, op, type, pos, after, guard⟩ := o
  simp only at hi hρ
  have none : reads i fr L = [] → ∀ id ∈ reads i fr L, K id := fun h id hid => by rw [h] at hid; cases hid
  cases op with
  | load t a =>
    simp only [cIns] at hi
    split at hi
    · obtain ⟨_, hi⟩ := bif_some hi
      obtain ⟨y, hy, rfl⟩ := x1_spec hi
      exact idOf_known (hρ a (by simp [Op.operands]) y hy)
    · cases hi
  | convert t1 t2 a =>
    simp only [cIns] at hi
    split at hi
    · split at hi
      · obtain ⟨_, _, rfl⟩ := x1_spec hi; exact none rfl
      · obtain ⟨y, hy, rfl⟩ := x1_spec hi
        exact idOf_known (hρ a (by simp [Op.operands]) y hy)
      · split at hi
        · split at hi
          · obtain ⟨_, _, rfl⟩ := x1_spec hi; exact none rfl
          · cases hi
        · cases hi
      · split at hi
        · split at hi
          · obtain ⟨y, hy, rfl⟩ := x1_spec hi
            exact idOf_known (hρ a (by simp [Op.operands]) y hy)
          · cases hi
        · cases hi
      · cases hi
    · cases hi
  | slice t a lo hi' mx =>
    simp only [cIns] at hi
    split at hi
    · split at hi
      · rename_i xa xl xh xm h1 h2 h3 h4
        split at hi
        · cases hi
          exact idOf_known (hρ a (by simp [Op.operands]) xa h1)
        · split at hi
          · obtain ⟨_, hi⟩ := bif_some hi
            cases hi
            exact idOf_known (hρ a (by simp [Op.operands]) xa h1)
          · cases hi
        · cases hi
      · cases hi
    · cases hi
  | call cl =>
    obtain ⟨callee, as, tys⟩ := cl
    obtain ⟨as⟩ := as
    cases callee with
    | invoke _ _ => cases hi
    | value g =>
      simp only [cIns] at hi
      split at hi
      · cases hi; exact none rfl
      · cases hi
    | builtin b =>
      cases b <;> (rcases as with _ | ⟨a, _ | ⟨b, _ | ⟨d, args⟩⟩⟩) <;> first | (cases hi; done) | skip
      all_goals simp only [cIns] at hi
      all_goals
        revert hi
        repeat' split
        all_goals (intro hi; first | (cases hi; done) | (obtain ⟨_, _, _, _, rfl⟩ := x2_spec hi; exact none rfl) | (obtain ⟨_, _, rfl⟩ := x1_spec hi; exact none rfl) | (cases hi; exact none rfl))
  | unOp op t a =>
    cases op <;> first | (cases hi; done) | skip
    obtain ⟨y, hy, rfl⟩ := x1_spec (show x1 ps v a .not = _ from hi)
    exact none rfl
  | makeFunc f first cs =>
    obtain ⟨first⟩ := first
    cases f <;> cases first <;> first | (cases hi; done) | skip
    rename_i f
    obtain ⟨as, has, rfl⟩ := map_some' (show (cXs ps v cs.toList).map (.mkf f) = some i from hi)
    exact none rfl
  | _ =>
    all_goals
      revert hi
      simp only [cIns]
      repeat' split
      all_goals (intro hi; first | (cases hi; done) | (obtain ⟨_, _, _, _, rfl⟩ := x2_spec hi; exact none rfl) | (obtain ⟨_, _, rfl⟩ := x1_spec hi; exact none rfl) | (obtain ⟨_, _, _, _, _, _, rfl⟩ := x3_spec hi; exact none rfl) | (obtain ⟨_, _, rfl⟩ := map_some' hi; exact none rfl) | (cases hi; exact none rfl) | (obtain ⟨_, hi⟩ := bif_some hi; first | (obtain ⟨_, _, rfl⟩ := x1_spec hi; exact none rfl) | (obtain ⟨_, _, _, _, rfl⟩ := x2_spec hi; exact none rfl) | (obtain ⟨_, _, rfl⟩ := map_some' hi; exact none rfl) | (cases hi; exact none rfl)))

/-! ### What holds at any moment -/
section
variable (P : Program) (ops : Array Oper) (base : Nat) (fr : Tr) (l : List Nat) (d : Nat → DSt) (B : Nat) (m0 : LM) (K0 : Nat → Prop) (h0 : HF) (w0 : World) (a0 : Act)

/-- The objects that are known: those of the way's beginning, and those made ahead of their time. -/
def KS (kk : Nat) (S : Nat → Bool) : Nat → Prop := fun id => Kx K0 base (d kk).s.nxt id ∨ ∃ k j, kk ≤ k ∧ l[k]? = some j ∧ S j = true ∧ (d k).s.nxt ≤ id ∧ id < (d (k + 1)).s.nxt

structure TInv (S : Nat → Bool) (m : LM) (K : Nat → Prop) (a : Act) : Prop where
  size : (d 0).v.nt ≤ a.tmps.size
  noDefers : a.defers = []
  done : ∀ i o t, ops[i]? = some o → o.dst = some t → S i = true → ∀ e, look2 (d l.length).v.l t = some e → VR m K (a.tmps.getD t undef) (rd (toX (d l.length).v.cnt e) fr (d l.length).L)
  todo : ∀ t, (∀ i o, ops[i]? = some o → o.dst = some t → S i = false) → a.tmps.getD t undef = a0.tmps.getD t undef

structure DInv (kk : Nat) (S : Nat → Bool) (a : Act) (m : LM) (h : HF) (w : World) : Prop where
  le : kk ≤ l.length
  pre : ∀ k j, k < kk → l[k]? = some j → S j = true
  post : ∀ k j o, kk ≤ k → l[k]? = some j → ops[j]? = some o → S j = true → isEff o = false
  closed : Closed ops (fun j => S j = true)
  hr : HR B m (KS base l d K0 kk S) h w
  sub : Sub (d kk).s h
  early : ∀ k j, kk ≤ k → l[k]? = some j → S j = true → ∀ id c, (d k).s.nxt ≤ id → get (d (k + 1)).s.heap id = some c → h id = some c
  same : ∀ id, Kx K0 base (d 0).s.nxt id → m id = m0 id
  old : ∀ id, id < base → id ∉ (d kk).s.wd → h id = h0 id
  more : ∀ id, (d l.length).s.nxt ≤ id → h id = h0 id
  below : Below B w0 w
  tmp : TInv ops fr l d a0 S m (KS base l d K0 kk S) a
end

def addS (S : Nat → Bool) (i : Nat) : Nat → Bool := fun j => S j || j == i
theorem addS_old {S : Nat → Bool} {i j : Nat} (h : S j = true) : addS S i j = true := by simp [addS, h]
theorem addS_self (S : Nat → Bool) (i : Nat) : addS S i i = true := by simp [addS]
theorem addS_ne {S : Nat → Bool} {i j : Nat} (h : j ≠ i) : addS S i j = S j := by simp [addS, h]
theorem addS_cases {S : Nat → Bool} {i j : Nat} (h : addS S i j = true) : S j = true ∨ j = i := by simpa [addS] using h

section
variable {P : Program} {T : TT} {ps : PS} {ops : Array Oper} {call : Nat → List AV → St → RF} {base : Nat} {fr : Tr} {an l : List Nat} {d : Nat → DSt} {W : Nat → List Nat} {hs : Nat → Hist}
  {B : Nat} {m0 : LM} {K0 : Nat → Prop} {h0 : HF} {w0 : World} {a0 : Act}

theorem TInv.mono {S : Nat → Bool} {m m' : LM} {K K' : Nat → Prop} {a : Act} (x : TInv ops fr l d a0 S m K a) (hK : ∀ id, K id → K' id) (hm : ∀ id, K id → m' id = m id) : TInv ops fr l d a0 S m' K' a :=
  ⟨x.size, x.noDefers, fun i o t h1 h2 h3 e he => (x.done i o t h1 h2 h3 e he).mono hK hm, x.todo⟩

theorem TInv.put (hx : Facts T ps ops call base fr an l d W hs) (hd0 : (d 0).v.l = []) {S : Nat → Bool} {m : LM} {K : Nat → Prop} {a : Act} (x : TInv ops fr l d a0 S m K a) {i k : Nat} {o : Oper} (hk : l[k]? = some i) (ho : ops[i]? = some o) {u : Value}
    (hu : ∀ t e, o.dst = some t → look2 (d (k + 1)).v.l t = some e → VR m K u (rd (toX (d (k + 1)).v.cnt e) fr (d (k + 1)).L)) : TInv ops fr l d a0 (addS S i) m K (a.put o.dst u) := by
  have hkl := (List.getElem?_eq_some_iff.1 hk).1
  obtain ⟨j', o', hj', ho', hst⟩ := hx.at hkl
  rw [hk] at hj'; cases hj'
  rw [ho] at ho'; cases ho'
  obtain ⟨_, _, hdlt, _, _, _⟩ := stp_env hst (hx.eok k (by omega))
  have hnt := hx.nt k (by omega)
  refine ⟨by rw [put_size]; exact x.size, by rw [put_defers]; exact x.noDefers, fun i' o' t h1 h2 h3 e he => ?_, fun t ht => ?_⟩
  · cases hd : o.dst with
    | none =>
      have h3' : S i' = true := by
        rcases addS_cases h3 with h | h
        · exact h
        · subst h; rw [ho] at h1; cases h1; rw [hd] at h2; cases h2
      exact x.done i' o' t h1 h2 h3' e he
    | some t0 =>
      have hlt : t0 < a.tmps.size := Nat.lt_of_lt_of_le (hdlt t0 hd) (by rw [hnt]; exact x.size)
      rw [put_get a t0 u hlt]
      by_cases e1 : t = t0
      · subst e1
        rw [if_pos rfl]
        obtain ⟨e', he'⟩ := hx.written hd0 hk ho hd (k' := k + 1) (by omega) (by omega)
        have st := hx.stab hd0 (l.length - (k + 1)) (k + 1) (by omega) t e' he'
        rw [show k + 1 + (l.length - (k + 1)) = l.length by omega] at st
        rw [st.1] at he
        cases he
        rw [st.2]
        exact hu t _ hd he'
      · rw [if_neg e1]
        have h3' : S i' = true := by
          rcases addS_cases h3 with h | h
          · exact h
          · subst h; rw [ho] at h1; cases h1; rw [hd] at h2; cases h2; exact absurd rfl e1
        exact x.done i' o' t h1 h2 h3' e he
  · have hne : o.dst ≠ some t := fun hd => by
      have := ht i o ho hd
      rw [addS_self] at this; cases this
    have : (a.put o.dst u).tmps.getD t undef = a.tmps.getD t undef := by
      cases hd : o.dst with
      | none => rfl
      | some t0 =>
        have hlt : t0 < a.tmps.size := Nat.lt_of_lt_of_le (hdlt t0 hd) (by rw [hnt]; exact x.size)
        rw [put_get a t0 u hlt, if_neg (fun e => hne (by rw [hd, e]))]
    rw [this]
    refine x.todo t fun i' o' h1 h2 => ?_
    have := ht i' o' h1 h2
    cases hs : S i' with
    | false => rfl
    | true => rw [addS_old hs] at this; cases this

/-- What an operation looks into, holds what the way says. -/
theorem DInv.use (hx : Facts T ps ops call base fr (ancs ops.toList) l d W hs) (hd0 : (d 0).v.l = []) (ht0 : TmpR ps (d 0).v m0 (Kx K0 base (d 0).s.nxt) fr (d 0).L a0) {kk : Nat} {S : Nat → Bool} {a : Act} {m : LM} {h : HF} {w : World}
    (x : DInv ops base fr l d B m0 K0 h0 w0 a0 kk S a m h w) (hm0 : ∀ id, Kx K0 base (d 0).s.nxt id → m id = m0 id) (hK0 : ∀ id, Kx K0 base (d 0).s.nxt id → KS base l d K0 kk S id) {k i : Nat} {o : Oper} (hk : l[k]? = some i) (ho : ops[i]? = some o) (hS : S i = false) (hrdy : Direct ops i (fun j => S j = true)) :
    UseR ps (d k).v m (KS base l d K0 kk S) fr (d k).L a (usesOf ops o) := by
  refine ⟨fun t ht e he => ?_⟩
  have hkl := (List.getElem?_eq_some_iff.1 hk).1
  have ancS : ∀ j, Nat.testBit ((ancs ops.toList).getD i 0) j = true → S j = true := fun j hb => ancs_good ops i j hb _ x.closed hrdy
  cases hl : look2 (d k).v.l t with
  | some e' =>
    have : e = e' := by
      unfold cTmp at he; rw [hl] at he; exact (Option.some.inj he).symm
    subst this
    obtain ⟨k', j', o', g1, g2, g3, g4⟩ := hx.writer hd0 k (by omega) t e hl
    have st := hx.stab hd0 (l.length - k) k (by omega) t e hl
    rw [show k + (l.length - k) = l.length by omega] at st
    rw [← st.2]
    refine x.tmp.done j' o' t g3 g4 ?_ e st.1
    have hne : j' ≠ i := fun hh => by subst hh; have := hx.inj g2 hk; omega
    rcases (hx.ord.one j' i o' o t g3 ho g4 hne).2 ht with hb | hb
    · exact ancS j' hb
    · have := hx.ord.anc k' j' i g2 hb
      obtain ⟨n, hn1, hn2⟩ := List.mem_take_iff_getElem.1 this
      have : l[n]? = some i := by rw [List.getElem?_eq_getElem (by omega), hn2]
      have := hx.inj this hk
      omega
  | none =>
    have he' : ∃ p, look2 ps t = some p ∧ e = .al (.t p) := by
      unfold cTmp at he
      rw [hl] at he
      simp only at he
      split at he
      · rename_i p hp; cases he; exact ⟨p, hp, rfl⟩
      · cases he
    obtain ⟨p, hp, rfl⟩ := he'
    have hun : a.tmps.getD t undef = a0.tmps.getD t undef := by
      refine x.tmp.todo t fun i' o' h1 h2 => ?_
      cases hs' : S i' with
      | false => rfl
      | true =>
        exfalso
        obtain ⟨k'', hk''⟩ : ∃ k'' : Nat, l[k'']? = some i' := by
          obtain ⟨n, hn1, hn2⟩ := List.mem_iff_getElem.1 (hx.ord.all i' (Array.getElem?_eq_some_iff.1 h1).1)
          exact ⟨n, by rw [List.getElem?_eq_getElem hn1, hn2]⟩
        have hk3 : k ≤ k'' := by
          rcases Nat.lt_or_ge k'' k with g | g
          · obtain ⟨e2, he2⟩ := hx.written hd0 hk'' h1 h2 g (by omega)
            rw [hl] at he2; cases he2
          · exact g
        have hne : i' ≠ i := fun hh => by subst hh; rw [hS] at hs'; cases hs'
        rcases (hx.ord.one i' i o' o t h1 ho h2 hne).2 ht with hb | hb
        · have := hx.ord.anc k i i' hk hb
          obtain ⟨n, hn1, hn2⟩ := List.mem_take_iff_getElem.1 this
          have : l[n]? = some i' := by rw [List.getElem?_eq_getElem (by omega), hn2]
          have := hx.inj this hk''
          omega
        · have : S i = true := ancs_good ops i' i hb _ x.closed fun o2 ho2 e2 he2 hs2 => x.closed i' o2 hs' ho2 e2 he2 hs2
          rw [hS] at this; cases this
    rw [hun]
    have := ht0.val t (.al (.t p)) (by unfold cTmp; rw [hd0]; show (match look2 ps t with | some p => some (E.al (.t p)) | none => none) = _; rw [hp])
    exact this.mono hK0 hm0
end
end Go.Pal
