/-
  Frames: what a region leaves, what a call finds.
-/
import Derived.Test.YtmomgakmgafdeaaGreatDoorPalReg2
namespace Go.Pal
open Go.RowKit

def Shape : Nat → Tr → Prop
  | 0, .lf _ => True
  | d + 1, .nd l r => Shape d l ∧ Shape d r
  | _, _ => False
theorem full_shape : ∀ d, Shape d (full d)
  | 0 => True.intro
  | d + 1 => ⟨full_shape d, full_shape d⟩
theorem look_full : ∀ (d : Nat) (p : P), look p (full d) = .undef
  | 0, .e => rfl
  | 0, .o _ => rfl
  | 0, .i _ => rfl
  | _ + 1, .e => rfl
  | d + 1, .o p => look_full d p
  | d + 1, .i p => look_full d p
theorem updT_shape (v : AV) : ∀ (d : Nat) (p : P) (t : Tr), plen p = d → Shape d t → Shape d (updT v p t)
  | 0, .e, .lf _, _, _ => True.intro
  | 0, .o _, _, h, _ => by simp [plen] at h
  | 0, .i _, _, h, _ => by simp [plen] at h
  | d + 1, .e, _, h, _ => by simp [plen] at h
  | d + 1, .o p, .nd l r, h, hs => ⟨updT_shape v d p l (by simpa [plen] using h) hs.1, hs.2⟩
  | d + 1, .i p, .nd l r, h, hs => ⟨hs.1, updT_shape v d p r (by simpa [plen] using h) hs.2⟩
  | d + 1, .o p, .lf _, h, hs => hs.elim
  | d + 1, .i p, .lf _, h, hs => hs.elim
  | 0, .e, .nd _ _, _, hs => hs.elim
theorem look_updT (v : AV) : ∀ (d : Nat) (p : P) (t : Tr), plen p = d → Shape d t → look p (updT v p t) = v
  | 0, .e, .lf _, _, _ => rfl
  | 0, .o _, _, h, _ => by simp [plen] at h
  | 0, .i _, _, h, _ => by simp [plen] at h
  | d + 1, .e, _, h, _ => by simp [plen] at h
  | d + 1, .o p, .nd l r, h, hs => look_updT v d p l (by simpa [plen] using h) hs.1
  | d + 1, .i p, .nd l r, h, hs => look_updT v d p r (by simpa [plen] using h) hs.2
  | d + 1, .o p, .lf _, h, hs => hs.elim
  | d + 1, .i p, .lf _, h, hs => hs.elim
  | 0, .e, .nd _ _, _, hs => hs.elim
theorem look_updT_ne (v : AV) : ∀ (d : Nat) (p q : P) (t : Tr), plen p = d → plen q = d → q ≠ p → Shape d t → look q (updT v p t) = look q t
  | 0, .e, .e, .lf _, _, _, hn, _ => absurd rfl hn
  | 0, .o _, _, _, h, _, _, _ => by simp [plen] at h
  | 0, .i _, _, _, h, _, _, _ => by simp [plen] at h
  | 0, .e, .o _, _, _, h, _, _ => by simp [plen] at h
  | 0, .e, .i _, _, _, h, _, _ => by simp [plen] at h
  | d + 1, .e, _, _, h, _, _, _ => by simp [plen] at h
  | d + 1, .o _, .e, _, _, h, _, _ => by simp [plen] at h
  | d + 1, .i _, .e, _, _, h, _, _ => by simp [plen] at h
  | d + 1, .o p, .o q, .nd l r, h, h', hn, hs => look_updT_ne v d p q l (by simpa [plen] using h) (by simpa [plen] using h') (fun e => hn (e ▸ rfl)) hs.1
  | d + 1, .i p, .i q, .nd l r, h, h', hn, hs => look_updT_ne v d p q r (by simpa [plen] using h) (by simpa [plen] using h') (fun e => hn (e ▸ rfl)) hs.2
  | d + 1, .o p, .i q, .nd l r, h, h', hn, hs => rfl
  | d + 1, .i p, .o q, .nd l r, h, h', hn, hs => rfl
  | d + 1, .o p, .o q, .lf _, h, h', hn, hs => hs.elim
  | d + 1, .i p, .i q, .lf _, h, h', hn, hs => hs.elim
  | d + 1, .o p, .i q, .lf _, h, h', hn, hs => hs.elim
  | d + 1, .i p, .o q, .lf _, h, h', hn, hs => hs.elim
  | 0, .e, .e, .nd _ _, _, _, _, hs => hs.elim

theorem okPs_cons {D : Nat} {t : Nat} {p : P} {r : PS} (h : okPs D ((t, p) :: r) = true) : plen p = D ∧ (∀ q ∈ r, q.1 ≠ t ∧ q.2 ≠ p) ∧ okPs D r = true := by
  have h' : (Nat.beq (plen p) D && r.all (fun q => !Nat.beq q.1 t && decide (q.2 ≠ p)) && okPs D r) = true := h
  obtain ⟨h1, h2⟩ := and3 h'
  obtain ⟨h1, h3⟩ := and3 h1
  refine ⟨nbeq_iff.1 h1, fun q hq => ?_, h2⟩
  have := List.all_eq_true.1 h3 q hq
  obtain ⟨g1, g2⟩ := and3 this
  refine ⟨fun e => ?_, of_decide_eq_true g2⟩
  rw [e, nbeq_self] at g1
  cases g1
theorem look2_mem {α : Type} {l : List (Nat × α)} {t : Nat} {a : α} (h : look2 l t = some a) : (t, a) ∈ l := by
  induction l with
  | nil => cases h
  | cons q l ih =>
    obtain ⟨k, b⟩ := q
    rw [look2_cons] at h
    split at h
    · rename_i e; cases h; subst e; exact List.mem_cons_self
    · exact List.mem_cons_of_mem _ (ih h)
theorem okPs_len {D : Nat} : ∀ {ps : PS}, okPs D ps = true → ∀ t p, (t, p) ∈ ps → plen p = D
  | [], _, t, p, h => by cases h
  | (t0, p0) :: r, hk, t, p, h => by
    obtain ⟨h1, h2, h3⟩ := okPs_cons hk
    rcases List.mem_cons.1 h with e | e
    · cases e; exact h1
    · exact okPs_len h3 t p e
theorem okPs_inj {D : Nat} : ∀ {ps : PS}, okPs D ps = true → ∀ t t' p, (t, p) ∈ ps → (t', p) ∈ ps → t = t'
  | [], _, t, t', p, h, _ => by cases h
  | (t0, p0) :: r, hk, t, t', p, h, h' => by
    obtain ⟨h1, h2, h3⟩ := okPs_cons hk
    rcases List.mem_cons.1 h with e | e
    · cases e
      rcases List.mem_cons.1 h' with e' | e'
      · cases e'; rfl
      · exact absurd rfl (h2 _ e').2
    · rcases List.mem_cons.1 h' with e' | e'
      · cases e'; exact absurd rfl (h2 _ e).2
      · exact okPs_inj h3 t t' p e e'

theorem upds_spec (ps0 : PS) (v : Env) (fr0 : Tr) (L : List AV) {D : Nat} : ∀ (ps : PS), okPs D ps = true → ∀ fr, Shape D fr →
    Shape D (upds (cUpd ps0 v ps) fr0 L fr) ∧
    (∀ t p, (t, p) ∈ ps → look p (upds (cUpd ps0 v ps) fr0 L fr) = (match look2 v.l t with | some e => rd (toX v.cnt e) fr0 L | none => look p fr)) ∧
    (∀ p, plen p = D → (∀ t, (t, p) ∉ ps) → look p (upds (cUpd ps0 v ps) fr0 L fr) = look p fr)
  | [], _, fr, hs => ⟨hs, (fun t p h => by cases h), fun p _ _ => rfl⟩
  | (t0, p0) :: r, hk, fr, hs => by
    obtain ⟨h1, h2, h3⟩ := okPs_cons hk
    have hnr : ∀ t, (t, p0) ∉ r := fun t ht => (h2 _ ht).2 rfl
    cases he : look2 v.l t0 with
    | none =>
      have e1 : cUpd ps0 v ((t0, p0) :: r) = cUpd ps0 v r := by
        show (match look2 v.l t0 with | some e => _ | none => _) = _
        rw [he]
      rw [e1]
      obtain ⟨i1, i2, i3⟩ := upds_spec ps0 v fr0 L r h3 fr hs
      refine ⟨i1, fun t p h => ?_, fun p hp hn => i3 p hp fun t ht => hn t (List.mem_cons_of_mem _ ht)⟩
      rcases List.mem_cons.1 h with e | e
      · cases e; rw [he]; exact i3 _ h1 hnr
      · exact i2 t p e
    | some e =>
      have e1 : cUpd ps0 v ((t0, p0) :: r) = (p0, toX v.cnt e) :: cUpd ps0 v r := by
        show (match look2 v.l t0 with | some e => _ | none => _) = _
        rw [he]
      rw [e1]
      have e2 : ∀ fr, upds ((p0, toX v.cnt e) :: cUpd ps0 v r) fr0 L fr = upds (cUpd ps0 v r) fr0 L (updT (rd (toX v.cnt e) fr0 L) p0 fr) := fun _ => rfl
      rw [e2]
      obtain ⟨i1, i2, i3⟩ := upds_spec ps0 v fr0 L r h3 _ (updT_shape (rd (toX v.cnt e) fr0 L) D p0 fr h1 hs)
      refine ⟨i1, fun t p h => ?_, fun p hp hn => ?_⟩
      · rcases List.mem_cons.1 h with e' | e'
        · cases e'; rw [he]; rw [i3 _ h1 hnr]; exact look_updT _ D p0 fr h1 hs
        · rw [i2 t p e']
          cases look2 v.l t with
          | some _ => rfl
          | none => exact look_updT_ne _ D p0 p fr h1 (okPs_len h3 t p e') (h2 _ e').2 hs
      · rw [i3 p hp fun t ht => hn t (List.mem_cons_of_mem _ ht)]
        exact look_updT_ne _ D p0 p fr h1 hp (fun e => hn t0 (e ▸ List.mem_cons_self)) hs

/-- Between regions: the temporaries that stay. -/
structure FrR (D : Nat) (ps : PS) (nt : Nat) (m : LM) (K : Nat → Prop) (fr : Tr) (a : Act) : Prop where
  size : nt ≤ a.tmps.size
  shape : Shape D fr
  val : ∀ t p, look2 ps t = some p → VR m K (a.tmps.getD t undef) (look p fr)
  noDefers : a.defers = []
theorem FrR.tmp {D : Nat} {ps : PS} {nt : Nat} {m : LM} {K : Nat → Prop} {fr : Tr} {a : Act} (x : FrR D ps nt m K fr a) : TmpR ps ⟨[], 0, nt⟩ m K fr [] a := by
  refine ⟨x.size, (fun t e h => by cases h), fun t e h => ?_, x.noDefers⟩
  have h' : (match look2 ps t with | some p => some (E.al (.t p)) | none => none) = some e := h
  split at h'
  · rename_i p hp; cases h'; exact x.val t p hp
  · cases h'
theorem TmpR.frame {D : Nat} {ps : PS} {v : Env} {m : LM} {K : Nat → Prop} {fr : Tr} {L : List AV} {a : Act} (x : TmpR ps v m K fr L a) (hk : okPs D ps = true) (hs : Shape D fr) : FrR D ps v.nt m K (upds (cUpd ps v ps) fr L fr) a := by
  obtain ⟨i1, i2, i3⟩ := upds_spec ps v fr L ps hk fr hs
  refine ⟨x.size, i1, fun t p h => ?_, x.noDefers⟩
  rw [i2 t p (look2_mem h)]
  cases he : look2 v.l t with
  | some e =>
    refine x.val t e ?_
    unfold cTmp
    rw [he]
  | none =>
    have := x.val t (.al (.t p)) (by unfold cTmp; rw [he, h])
    exact this
theorem FrR.mono {D : Nat} {ps : PS} {nt : Nat} {m m' : LM} {K K' : Nat → Prop} {fr : Tr} {a : Act} (x : FrR D ps nt m K fr a) (hK : ∀ id, K id → K' id) (hm : ∀ id, K id → m' id = m id) : FrR D ps nt m' K' fr a :=
  ⟨x.size, x.shape, fun t p h => (x.val t p h).mono hK hm, x.noDefers⟩

/-- Arguments laid in. -/
theorem iniF_spec {ps : PS} {D : Nat} (hk : okPs D ps = true) {m : LM} {K : Nat → Prop} (tm : Nat → Value) : ∀ (n i : Nat) (vs : List AV) (fr : Tr), Shape D fr → (∀ j v, vs[j]? = some v → VR m K (tm (i + j)) v) → (∀ t p, look2 ps t = some p → VR m K (tm t) (look p fr)) →
    Shape D (iniF ((List.range' i n).map (look2 ps)) vs fr) ∧ ∀ t p, look2 ps t = some p → VR m K (tm t) (look p (iniF ((List.range' i n).map (look2 ps)) vs fr))
  | 0, i, vs, fr, hs, hv, hp => ⟨hs, hp⟩
  | n + 1, i, [], fr, hs, hv, hp => ⟨hs, hp⟩
  | n + 1, i, v :: vs, fr, hs, hv, hp => by
    rw [List.range'_succ, List.map_cons]
    have e1 : iniF (look2 ps i :: (List.range' (i + 1) n).map (look2 ps)) (v :: vs) fr = iniF ((List.range' (i + 1) n).map (look2 ps)) vs (Option.casesOn (motive := fun _ => Tr) (look2 ps i) fr fun p => updT v p fr) := rfl
    rw [e1]
    have hvs : ∀ j w, vs[j]? = some w → VR m K (tm (i + 1 + j)) w := fun j w hw => by
      have := hv (j + 1) w (by simpa using hw)
      rwa [show i + (j + 1) = i + 1 + j by omega] at this
    cases hq : look2 ps i with
    | none => exact iniF_spec hk tm n (i + 1) vs fr hs hvs hp
    | some q =>
      have hl := okPs_len hk i q (look2_mem hq)
      refine iniF_spec hk tm n (i + 1) vs (updT v q fr) (updT_shape v D q fr hl hs) hvs fun t p h => ?_
      by_cases e : p = q
      · subst e
        have : t = i := okPs_inj hk t i p (look2_mem h) (look2_mem hq)
        subst this
        rw [look_updT v D p fr hl hs]
        exact hv 0 v rfl
      · rw [look_updT_ne v D q p fr hl (okPs_len hk t p (look2_mem h)) e hs]
        exact hp t p h
end Go.Pal
