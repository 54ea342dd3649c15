/-
  One operation: what the small code's instruction comes to, the model's operation comes to.
-/
import Derived.Test.YtmomgakmgafdeaaGreatDoorPalMem5
namespace Go.Pal
open Go.RowKit

/-! ### Operands -/
theorem x1_spec {ps : PS} {v : Env} {x : Operand} {f : X → I} {i : I} (h : x1 ps v x f = some i) : ∃ a, cX ps v x = some a ∧ i = f a := by
  unfold x1 at h
  cases hx : cX ps v x with
  | none => rw [hx] at h; cases h
  | some a => rw [hx] at h; cases h; exact ⟨a, rfl, rfl⟩
theorem x2_spec {ps : PS} {v : Env} {x y : Operand} {f : X → X → I} {i : I} (h : x2 ps v x y f = some i) : ∃ a b, cX ps v x = some a ∧ cX ps v y = some b ∧ i = f a b := by
  unfold x2 at h
  split at h
  · rename_i a b ha hb; cases h; exact ⟨a, b, ha, hb, rfl⟩
  · cases h
theorem x3_spec {ps : PS} {v : Env} {x y z : Operand} {f : X → X → X → I} {i : I} (h : x3 ps v x y z f = some i) : ∃ a b c, cX ps v x = some a ∧ cX ps v y = some b ∧ cX ps v z = some c ∧ i = f a b c := by
  unfold x3 at h
  split at h
  · rename_i a b c ha hb hc; cases h; exact ⟨a, b, c, ha, hb, hc, rfl⟩
  · cases h

/-- What an operation needs: its operands' values. -/
def EnvR (ρ : Operand → Value) (ps : PS) (v : Env) (m : LM) (K : Nat → Prop) (fr : Tr) (L : List AV) (l : List Operand) : Prop :=
  ∀ x ∈ l, ∀ a, cX ps v x = some a → VR m K (ρ x) (rd a fr L)

section
variable {ρ : Operand → Value} {ps : PS} {v : Env} {m : LM} {K : Nat → Prop} {fr : Tr} {L : List AV}
theorem cXo_spec {o : Option Operand} {a : Option X} (h : cXo ps v o = some a) (hr : ∀ x, o = some x → ∀ a, cX ps v x = some a → VR m K (ρ x) (rd a fr L)) : OptR m K fr L (o.map ρ) a := by
  cases o with
  | none => cases h; exact .none
  | some x =>
    have h' : (cX ps v x).map some = some a := h
    cases hx : cX ps v x with
    | none => rw [hx] at h'; cases h'
    | some b => rw [hx] at h'; cases h'; exact .some (hr x rfl b hx)
theorem cXs_spec : ∀ {l : List Operand} {as : List X}, cXs ps v l = some as → (∀ x ∈ l, ∀ a, cX ps v x = some a → VR m K (ρ x) (rd a fr L)) → VRL m K (l.map ρ) (rds as fr L)
  | [], as, h, _ => by cases h; exact .nil
  | x :: l, as, h, hr => by
    have h' : (match cX ps v x, cXs ps v l with | some a, some b => some (a :: b) | _, _ => none) = some as := h
    split at h'
    · rename_i a b ha hb
      cases h'
      exact .cons (hr x List.mem_cons_self a ha) (cXs_spec hb fun y hy => hr y (List.mem_cons_of_mem _ hy))
    · cases h'
theorem cParts_spec {place : Nat → Option (Nat × Nat)} : ∀ {l : List (Nat × Operand)} {qs : List (Nat × Nat × X)}, cParts ps v place l = some qs → (∀ x ∈ l.map (·.2), ∀ a, cX ps v x = some a → VR m K (ρ x) (rd a fr L)) →
    Two (fun (p : Nat × Value) (q : Nat × Nat × X) => place p.1 = some (q.1, q.2.1) ∧ VR m K p.2 (rd q.2.2 fr L)) (l.map fun p => (p.1, ρ p.2)) qs
  | [], qs, h, _ => by cases h; exact .nil
  | (i, x) :: l, qs, h, hr => by
    have h' : (match place i, cX ps v x, cParts ps v place l with | some (o, n), some a, some b => some ((o, n, a) :: b) | _, _, _ => none) = some qs := h
    split at h'
    · rename_i o n a b ho ha hb
      cases h'
      exact .cons ⟨ho, hr x (by simp) a ha⟩ (cParts_spec hb fun y hy => hr y (by simp at hy ⊢; exact .inr hy))
    · cases h'
end

/-! ### What comes of an operation -/
section
variable {P : Program} {B : Nat} {m : LM} {K : Nat → Prop} {h : HF} {w : World}

/-- An operation that writes nothing of old: either the heap is as it was, or there is one more object. -/
def ValOk (P : Program) (B : Nat) (w : World) (x : Sem Next) (m : LM) (K : Nat → Prop) (h : HF) (s s' : St) (c : AV) : Prop :=
  (s' = s ∧ ∃ u, x.run P w = .ok (.value u) w ∧ VR m K u c) ∨
  (∃ l, allOne l = true ∧ s' = ⟨(s.nxt, l) :: s.heap, Nat.succ s.nxt, s.wd⟩ ∧
    (¬ K s.nxt → ∃ u w' m', x.run P w = .ok (.value u) w' ∧ VR m' (Kx K s.nxt (Nat.succ s.nxt)) u c ∧ Pst B s.nxt (Nat.succ s.nxt) [] m K h w m' (updF h s.nxt (some l)) w'))

theorem ValOk.here {x : Sem Value} {s : St} {c : AV} (hh : Here P w x m K c) : ValOk P B w (do pure (Next.value (← x))) m K h s s c := by
  obtain ⟨u, h1, h2⟩ := hh
  exact .inl ⟨rfl, u, by simp [h1], h2⟩
theorem ValOk.gives {x : Sem Value} {s s' : St} {c : AV} (hh : s' = s ∧ Gives P x m K c) : ValOk P B w (do pure (Next.value (← x))) m K h s s' c := by
  obtain ⟨rfl, hh⟩ := hh
  exact .here hh.here
theorem ValOk.makes {x : Sem Value} {s : St} {l : List AV} {c : AV} (hone : allOne l = true) (hh : ¬ K s.nxt → Makes P B w x m K h s.nxt l c) : ValOk P B w (do pure (Next.value (← x))) m K h s ⟨(s.nxt, l) :: s.heap, Nat.succ s.nxt, s.wd⟩ c := by
  refine .inr ⟨l, hone, rfl, fun hk => ?_⟩
  obtain ⟨u, w', m', h1, h2, h3⟩ := hh hk
  exact ⟨u, w', m', by simp [h1], h2, h3⟩

/-- An operation that may write. -/
def EffOk (P : Program) (B : Nat) (w : World) (x : Sem Next) (m : LM) (K : Nat → Prop) (h : HF) (s s' : St) (W : List Nat) (c : AV) : Prop :=
  OKs s' ∧ s.nxt ≤ s'.nxt ∧ s'.wd = s.wd ∧ ∃ n u w' m' h', x.run P w = .ok n w' ∧ (n = .value u ∨ (n = .skip ∧ u = undef)) ∧ VR m' (Kx K s.nxt s'.nxt) u c ∧ Pst B s.nxt s'.nxt W m K h w m' h' w' ∧ Sub s' h'

theorem EffOk.of {x : Sem Value} {s s' : St} {W : List Nat} {c : AV} (h1 : OKs s') (h2 : s.nxt ≤ s'.nxt) (h3 : s'.wd = s.wd) (hh : Effs P B w x m K h s.nxt s'.nxt W s' c) : EffOk P B w (do pure (Next.value (← x))) m K h s s' W c := by
  obtain ⟨u, w', m', h', g1, g2, g3, g4⟩ := hh
  exact ⟨h1, h2, h3, _, u, w', m', h', by simp [g1], .inl rfl, g2, g3, g4⟩

/-! ### The states that come -/
/-- What an operation leaves of the state: the numbers grow, what it has not written is as it was (or gone). -/
def StOk (s s' : St) (W : List Nat) : Prop := OKs s' ∧ s.nxt ≤ s'.nxt ∧ s'.wd = s.wd ∧ ∀ id d, id < s.nxt → id ∉ W → get s'.heap id = some d → get s.heap id = some d
theorem StOk.refl {s : St} (ok : OKs s) (W : List Nat) : StOk s s W := ⟨ok, Nat.le_refl _, rfl, fun _ _ _ _ h => h⟩
theorem StOk.new {s : St} (ok : OKs s) (l : List AV) (W : List Nat) : StOk s ⟨(s.nxt, l) :: s.heap, Nat.succ s.nxt, s.wd⟩ W :=
  ⟨ok.new l _, Nat.le_succ _, rfl, fun id d h1 _ h => by
    change get ((s.nxt, l) :: s.heap) id = some d at h
    rw [get_cons, if_neg (by omega)] at h
    exact h⟩
theorem newO_st {s s' : St} {c : List AV} {f : Nat → St → R} (ok : OKs s) {W : List Nat} {v : AV} (h : newO s c f = .eff v s' W) (hf : ∀ id t v t' W', f id t = .eff v t' W' → t' = t) : StOk s s' W := by
  obtain ⟨_, h2⟩ := newO_of h (by simp)
  have := hf _ _ _ _ _ h2
  subst this
  exact .new ok c _
theorem wrO_st {s : St} (ok : OKs s) (id : Nat) (c : List AV) : StOk s (wrO s id c) [id] := ⟨ok.put _ _ _, Nat.le_refl _, rfl, fun j d h1 h2 h => by
  change get (put s.heap id c) j = some d at h
  rw [get_put, if_neg (by simpa using h2)] at h
  exact h⟩
theorem storeR_st {s s' : St} (ok : OKs s) {a b r : AV} {n : Nat} {W : List Nat} (hr : storeR s a b n = .eff r s' W) : StOk s s' W := by
  cases a <;> first | (cases hr; done) | skip
  obtain ⟨c, hc, hr1⟩ := orNo_of (show orNo (get s.heap _) _ = _ from hr) (by simp)
  obtain ⟨vs, hvs, hr2⟩ := orNo_of hr1 (by simp)
  obtain ⟨hb, hr3⟩ := cond_of hr2 (by simp)
  obtain ⟨c', hset, hr4⟩ := orNo_of hr3 (by simp)
  cases hr4
  exact wrO_st ok _ _
theorem appR_st {s s' : St} (ok : OKs s) {a r : AV} {esz n : Nat} {nw : List AV} {W : List Nat} (hr : appR s esz a n nw = .eff r s' W) : StOk s s' W := by
  cases a <;> first | (cases hr; done) | skip
  · rw [appR_sl] at hr
    obtain ⟨c, hc, hr1⟩ := orNo_of hr (by simp)
    revert hr1
    cases Nat.ble _ _ with
    | true =>
      intro hr1
      obtain ⟨c', hset, hr2⟩ := orNo_of hr1 (by simp)
      obtain ⟨_, hr3⟩ := cond_of hr2 (by simp)
      cases hr3
      exact wrO_st ok _ _
    | false =>
      intro hr1
      obtain ⟨old, _, hr2⟩ := orNo_of hr1 (by simp)
      exact newO_st ok hr2 (fun _ _ _ _ _ h => by cases h; rfl)
  · rename_i id off len e
    rw [appR_so] at hr
    obtain ⟨c, hc, hr0⟩ := orNo_of hr (by simp)
    obtain ⟨_, hr1⟩ := cond_of hr0 (by simp)
    revert hr1
    cases Nat.ble _ _ with
    | true =>
      intro hr1
      obtain ⟨c', hset, hr2⟩ := orNo_of hr1 (by simp)
      obtain ⟨_, hr3⟩ := cond_of hr2 (by simp)
      cases hr3
      exact wrO_st ok _ _
    | false =>
      intro hr1
      obtain ⟨old, _, hr2⟩ := orNo_of hr1 (by simp)
      obtain ⟨g1, g2, g3, g4⟩ := newO_st (s := ⟨Pal.del s.heap id, s.nxt, s.wd⟩) (ok.del id) hr2 (fun _ _ _ _ _ h => by cases h; rfl)
      refine ⟨g1, g2, g3, fun j d h1 h2 h => ?_⟩
      have := g4 j d h1 h2 h
      change get (Pal.del s.heap id) j = some d at this
      rw [get_del ok.desc] at this
      split at this
      · cases this
      · exact this
  · rw [appR_nil] at hr
    revert hr
    cases Nat.beq n 0 with
    | true => intro hr; cases hr; exact .refl ok _
    | false => intro hr; rw [cond_false] at hr; exact newO_st ok hr (fun _ _ _ _ _ h => by cases h; rfl)
theorem srcR_any {s : St} {esz n : Nat} {b : AV} {f : List AV → R} {r : R} (hr : srcR s esz n b f = r) (hne : r ≠ .no) : ∃ l, f l = r := by
  cases b <;> first | exact absurd hr.symm hne | skip
  · exact ⟨_, (cond_of hr hne).2⟩
  · obtain ⟨c, _, h1⟩ := orNo_of hr hne
    obtain ⟨l, _, h2⟩ := orNo_of h1 hne
    exact ⟨l, h2⟩
  · obtain ⟨c, _, h1⟩ := orNo_of hr hne
    obtain ⟨l, _, h2⟩ := orNo_of h1 hne
    exact ⟨l, h2⟩
  · exact ⟨_, (cond_of hr hne).2⟩
theorem cpyR_st {s s' : St} (ok : OKs s) {a b r : AV} {esz : Nat} {W : List Nat} (hr : cpyR s esz a b = .eff r s' W) : StOk s s' W := by
  have key : ∀ id off len, ((∃ cap, a = .sl id off len cap) ∨ ∃ e, a = .so id off len e) → StOk s s' W := by
    intro id off len ha
    rw [cpyR_row s esz a b ha] at hr
    obtain ⟨n0, _, hr1⟩ := lenR_of hr (by simp)
    obtain ⟨l, hr2⟩ := srcR_any hr1 (by simp)
    obtain ⟨c, hc, hr3⟩ := orNo_of hr2 (by simp)
    obtain ⟨c', hset, hr4⟩ := orNo_of hr3 (by simp)
    obtain ⟨hone, hr5⟩ := cond_of hr4 (by simp)
    cases hr5
    exact wrO_st ok _ _
  cases a <;> first | (exact key _ _ _ (.inl ⟨_, rfl⟩)) | (exact key _ _ _ (.inr ⟨_, rfl⟩)) | skip
  all_goals obtain ⟨n0, hn0, hr1⟩ := lenR_of (show lenR b _ = _ from hr) (by simp)
  all_goals first | (cases hr1; done) | skip
  cases hr1
  exact .refl ok _
theorem clrR_st {s s' : St} (ok : OKs s) {a r : AV} {esz : Nat} {z : List AV} {W : List Nat} (hr : clrR s esz z a = .eff r s' W) : StOk s s' W := by
  have key : ∀ id off len, ((∃ cap, a = .sl id off len cap) ∨ ∃ e, a = .so id off len e) → StOk s s' W := by
    intro id off len ha
    rw [clrR_row s esz z a ha] at hr
    obtain ⟨c, hc, hr3⟩ := orNo_of hr (by simp)
    obtain ⟨c', hset, hr4⟩ := orNo_of hr3 (by simp)
    obtain ⟨hone, hr5⟩ := cond_of hr4 (by simp)
    cases hr5
    exact wrO_st ok _ _
  cases a <;> first | (exact key _ _ _ (.inl ⟨_, rfl⟩)) | (exact key _ _ _ (.inr ⟨_, rfl⟩)) | (cases hr; done) | skip
  cases hr
  exact .refl ok _
end
end Go.Pal
