/-
  A region whose order is the text's: its operations, one behind the other.
-/
import Derived.Test.YtmomgakmgafdeaaGreatDoorPalReg
namespace Go.Pal
open Go.RowKit

abbrev dstEnv (o : Oper) (v : Env) : Env := dstE o.dst v

theorem cOper_spec {T : TT} {ps : PS} {ops : Array Oper} {v v' : Env} {o : Oper} {x : Option O} (h : cOper T ps ops v o = some (x, v')) :
    (∃ y d e, isMove o = some y ∧ o.dst = some d ∧ d < v.nt ∧ cE ps v y = some e ∧ x = none ∧ v' = ⟨(d, e) :: v.l, v.cnt, v.nt⟩) ∨
    (∃ g, x = some ⟨g, (cIns T ps v o.op).getD .bad⟩ ∧ v' = dstEnv o v ∧ (∀ d, o.dst = some d → d < v.nt) ∧
      ((o.guard = none ∧ g = none) ∨ ∃ j w gt e, o.guard = some (j, w) ∧ (ops[j]?).bind (·.dst) = some gt ∧ cTmp ps v gt = some e ∧ g = some (toX v.cnt e, w))) := by
  unfold cOper at h
  split at h
  · rename_i y d hy hd
    obtain ⟨hb, h⟩ := bif_some h
    split at h
    · rename_i e he
      cases h
      exact .inl ⟨y, d, e, hy, hd, nblt_iff.1 hb, he, rfl, rfl⟩
    · cases h
  · simp only at h
    obtain ⟨hb, h⟩ := bif_some h
    have hd : ∀ d, o.dst = some d → d < v.nt := fun d hd => by
      rw [hd] at hb
      exact nblt_iff.1 hb
    split at h
    · rename_i hg
      cases h
      exact .inr ⟨none, rfl, rfl, hd, .inl ⟨hg, rfl⟩⟩
    · rename_i j w hg
      split at h
      · rename_i gt hgt
        split at h
        · rename_i e he
          cases h
          exact .inr ⟨_, rfl, rfl, hd, .inr ⟨j, w, gt, e, hg, hgt, he, rfl⟩⟩
        · cases h
      · cases h

theorem isMove_spec {o : Oper} {y : Operand} (h : isMove o = some y) : o.guard = none ∧ (o.op = .move y ∨ o.op = .assign y) := by
  unfold isMove at h
  split at h
  · rename_i hg ho; cases h; exact ⟨hg, .inl ho⟩
  · rename_i hg ho; cases h; exact ⟨hg, .inr ho⟩
  · cases h

theorem getD_bool {tmps : Array Value} {t : Nat} {b : Bool} (h : tmps.getD t undef = .bool b) : tmps[t]? = some (.bool b) := by
  rw [Array.getD_eq_getD_getElem?] at h
  cases hq : tmps[t]? with
  | none => rw [hq] at h; cases h
  | some u => rw [hq] at h; simp at h; rw [h]

/-- The guard, as the small code sees it. -/
theorem wanted_ok {ps : PS} {v : Env} {m : LM} {K : Nat → Prop} {fr : Tr} {L : List AV} {a : Act} {ops : Array Oper} {o : Oper} {g : Option (X × Bool)} (x : UseR ps v m K fr L a (usesOf ops o))
    (hg : (o.guard = none ∧ g = none) ∨ ∃ j w gt e, o.guard = some (j, w) ∧ (ops[j]?).bind (·.dst) = some gt ∧ cTmp ps v gt = some e ∧ g = some (toX v.cnt e, w))
    {t : Bool} (h : wanted g fr L = some t) : Region.wanted o (yielded ops a.tmps) = t := by
  rcases hg with ⟨h1, rfl⟩ | ⟨j, w, gt, e, h1, h2, h3, rfl⟩
  · cases h
    unfold Region.wanted
    rw [h1]
  · have hv : VR m K (a.tmps.getD gt undef) (rd (toX v.cnt e) fr L) := by
      refine x.val gt ?_ e h3
      unfold usesOf
      refine List.mem_append_right _ ?_
      rw [h1]
      simp only [h2]
      exact List.mem_cons_self
    unfold Region.wanted
    rw [h1]
    simp only
    have h' : (match rd (toX v.cnt e) fr L with | .bool b => some (Bool.casesOn (motive := fun _ => Bool) b (not w) w) | .tup _ => some false | _ => none) = some t := h
    unfold yielded
    rw [h2]
    simp only [Option.bind_some]
    generalize rd (toX v.cnt e) fr L = av at *
    generalize hu : a.tmps.getD gt undef = u at hv
    cases hv <;> first | (cases h'; done) | skip
    · rename_i b
      rw [getD_bool hu]
      cases h'
      cases b <;> cases w <;> rfl
    · rename_i cs l hl
      cases h'
      rw [Array.getD_eq_getD_getElem?] at hu
      cases hq : a.tmps[gt]? with
      | none => rfl
      | some q => rw [hq] at hu; simp at hu; subst hu; rfl

/-- What holds on the way: the state, seen from the function's beginning. -/
structure Inv (B base : Nat) (m0 : LM) (K0 : Nat → Prop) (h0 : HF) (w0 : World) (s : St) (m : LM) (h : HF) (w : World) : Prop where
  ok : OKs s
  sub : Sub s h
  pst : Pst B base s.nxt s.wd m0 K0 h0 w0 m h w

theorem Kx.trans {K : Nat → Prop} {a b c : Nat} (h1 : a ≤ b) (h2 : b ≤ c) {id : Nat} (h : Kx (Kx K a b) b c id) : Kx K a c id := by
  rcases h with (h | h) | h
  · exact .inl h
  · exact .inr ⟨h.1, by omega⟩
  · exact .inr ⟨by omega, h.2⟩

section
variable {P : Program} {B base : Nat} {m0 : LM} {K0 : Nat → Prop} {h0 : HF} {w0 : World}

theorem Inv.step {s s1 : St} {m m' : LM} {h h' : HF} {w w' : World} (x : Inv B base m0 K0 h0 w0 s m h w) (ok : OKs s1) (hwd : s1.wd = s.wd) {W : List Nat} (hp : Pst B s.nxt s1.nxt W m (Kx K0 base s.nxt) h w m' h' w') (hs : Sub s1 h') :
    Inv B base m0 K0 h0 w0 ⟨s1.heap, s1.nxt, addW base W s1.wd⟩ m' h' w' :=
  ⟨⟨ok.desc, ok.lt⟩, hs, x.pst.trans hp fun id hid hw => by
    rw [addW_spec, hwd] at hw
    refine ⟨fun h => hw (.inr h), fun h => hw (.inl ⟨h, hid⟩)⟩⟩

/-- What the rest of a region needs, and what it gives. -/
def Goal (B base : Nat) (m0 : LM) (K0 : Nat → Prop) (h0 : HF) (w0 : World) (ps : PS) (v : Env) (fr : Tr) (L : List AV) (s : St) (R : Act → World → Prop) : Prop :=
  ∀ a m h w, TmpR ps v m (Kx K0 base s.nxt) fr L a → Inv B base m0 K0 h0 w0 s m h w → R a w

theorem Two.get {α β : Type} {R : α → β → Prop} : ∀ {as : List α} {bs : List β}, Two R as bs → ∀ a as', as = a :: as' → ∃ b bs', bs = b :: bs' ∧ R a b ∧ Two R as' bs'
  | _, _, .nil, a, as', h => by cases h
  | _, _, .cons h t, a, as', e => by cases e; exact ⟨_, _, rfl, h, t⟩

theorem ops_sim {T : TT} (hT : ∀ t ti, T t = some ti → TIr P t ti) {call : Nat → List AV → St → RF} (hc : CallOk P call) {ps : PS} {ops : Array Oper} {Q : Exit → Act → World → Prop} {fr : Tr} {Lf : List AV} {sf : St} {vf : Env}
    (hfr : Fr K0 base sf.nxt) (hQ : Goal B base m0 K0 h0 w0 ps vf fr Lf sf (Q .normal)) :
    ∀ (l : List Oper) (is : List Nat) (os : List O) (v : Env) (L : List AV) (s : St), Two (fun o i => ops[i]? = some o) l is → cOps T ps ops l v = some (os, vf) → OKs s → evOps call base os fr L s = .ok Lf sf →
      Goal B base m0 K0 h0 w0 ps v fr L s (wpOps P ops Q is) := by
  intro l
  induction l with
  | nil =>
    intro is os v L s hl hcs ok hev a m h w ht hi
    cases hl
    cases hcs
    cases hev
    exact hQ a m h w ht hi
  | cons o l ih =>
    intro is os v L s hl hcs ok hev a m h w ht hi
    obtain ⟨i, is, rfl, ho, hl⟩ := hl.get o l rfl
    have hcs' : (match cOper T ps ops v o with
      | none => none
      | some (x, v') => match cOps T ps ops l v' with
        | none => none
        | some (l, v'') => match x with
          | none => some (l, v'')
          | some a => some (a :: l, v'')) = some (os, vf) := hcs
    split at hcs'
    · cases hcs'
    · rename_i x v' hx
      split at hcs'
      · cases hcs'
      · rename_i os' v'' hos
        rcases cOper_spec hx with ⟨y, d, e, g1, g2, g3, g4, rfl, rfl⟩ | ⟨g, rfl, rfl, g1, g2⟩
        · -- a move
          cases hcs'
          obtain ⟨k1, k2⟩ := isMove_spec g1
          have hw : Region.wanted o (yielded ops a.tmps) = true := by unfold Region.wanted; rw [k1]
          have hwp : o.wp P a w (wpOps P ops Q is) Q := by
            have hn := ih is os _ L s hl hos ok hev (a.put (some d) (a.eval y)) m h w (ht.alias g3 g4) hi
            unfold Oper.wp
            rw [← g2] at hn
            rcases k2 with k2 | k2 <;> (unfold execOp; rw [k2]; exact hn)
          simp only [wpOps, ho, hw, if_true]
          exact .inl hwp
        · cases hcs'
          have hu := ht.use (usesOf ops o)
          rcases evOps_cons call base fr hev with ⟨q1, q2⟩ | ⟨q1, q2⟩
          · have hw := wanted_ok hu g2 q1
            simp only [wpOps, ho, hw, Bool.false_eq_true, if_false]
            exact ih is os' _ _ s hl hos ok q2 _ m h w (ht.put g1 (u := undef) (c := .tup []) (.tup [] [] .nil)) hi
          · have hw := wanted_ok hu g2 q1
            simp only [wpOps, ho, hw, if_true]
            refine .inl ?_
            have henv := hu.env
            cases hins : cIns T ps v o.op with
            | none =>
              rw [hins] at q2
              rcases q2 with ⟨_, _, h1, _⟩ | ⟨_, _, _, h1, _⟩ | ⟨_, _, _, _, _, _, h1, _⟩ <;> cases h1
            | some ins =>
              rw [hins] at q2
              simp only [Option.getD_some] at q2
              have hnx : ∀ {s1 : St}, s.nxt ≤ s1.nxt → s1.nxt ≤ sf.nxt → Fr (Kx K0 base s.nxt) s.nxt s1.nxt := fun h1 h2 id e1 e2 hk => by
                have := hi.pst.le
                rcases hk with hk | hk
                · exact hfr id (by omega) (by omega) hk
                · omega
              rcases kind_le ins with hk | hk | hk
              · rcases q2 with ⟨c, s1, h1, h2⟩ | ⟨c, s1, W, h1, h2⟩ | ⟨f, args, s1, c, s2, W, h1, h2, h3⟩
                · have hv := ins_val hT hins henv hi.pst.hr (fun id _ c hg => hi.sub id c hg) hk h1 (w := w)
                  obtain ⟨ok1, le1, wd1, _⟩ := (step_st ok).1 h1
                  have hb1 := hi.pst.le
                  have le2 := (evOps_st base fr hc _ h2 ok1 (Nat.le_trans hb1 le1)).le
                  rcases hv with ⟨rfl, u, r1, r2⟩ | ⟨lc, _, rfl, hv⟩
                  · unfold Oper.wp
                    rw [r1]
                    exact ih is os' _ _ s1 hl hos ok h2 _ m h w (ht.put g1 r2) hi
                  · obtain ⟨u, w', m', r1, r2, r3⟩ := hv (hnx (s1 := ⟨(s.nxt, lc) :: s.heap, Nat.succ s.nxt, s.wd⟩) le1 le2 s.nxt (Nat.le_refl _) (Nat.lt_succ_self _))
                    unfold Oper.wp
                    rw [r1]
                    have hi' := hi.step ok1 rfl r3 (sub_new hi.sub lc s.wd)
                    have hb := hi.pst.le
                    refine ih is os' _ _ _ hl hos ok1 h2 _ m' _ w' ((ht.mono (K' := Kx K0 base (Nat.succ s.nxt)) (fun id hk => Kx.trans hb (Nat.le_succ _) (.inl hk)) r3.same).put g1 (r2.mono (fun id hk => Kx.trans hb (Nat.le_succ _) hk) (fun _ _ => rfl))) hi'
                · have hv := step_isV ins fr L s hk
                  rw [h1] at hv; exact hv.elim
                · have hv := step_isV ins fr L s hk
                  rw [h1] at hv; exact hv.elim
              · rcases q2 with ⟨c, s1, h1, h2⟩ | ⟨c, s1, W, h1, h2⟩ | ⟨f, args, s1, c, s2, W, h1, h2, h3⟩
                · have hv := step_isE ins fr L s hk
                  rw [h1] at hv; exact hv.elim
                · obtain ⟨ok1, le1, wd1, _⟩ := (step_st ok).2.1 h1
                  have hb1 := hi.pst.le
                  have le2 := (evOps_st base fr hc _ h2 ⟨ok1.desc, ok1.lt⟩ (Nat.le_trans hb1 le1)).le
                  have hb := hi.pst.le
                  obtain ⟨_, _, _, n, u, w', m', h', r1, r2, r3, r4, r5⟩ := ins_eff hT hins henv hi.pst.hr hi.sub ok (fun e => hnx (s1 := s1) le1 le2 s.nxt (Nat.le_refl _) e) hk h1
                  have hi' := hi.step ok1 wd1 r4 r5
                  have hn := fun u (r3 : VR m' (Kx (Kx K0 base s.nxt) s.nxt s1.nxt) u c) => ih is os' _ (c :: L) ⟨s1.heap, s1.nxt, addW base W s1.wd⟩ hl hos (OKs.mk ok1.desc ok1.lt) h2 (a.put o.dst u) m' h' w' ((ht.mono (K' := Kx K0 base s1.nxt) (fun id hk => Kx.trans hb le1 (.inl hk)) r4.same).put g1 (VR.mono (fun id hk => Kx.trans hb le1 hk) (fun _ _ => rfl) r3)) hi'
                  unfold Oper.wp
                  rw [r1]
                  rcases r2 with rfl | ⟨rfl, rfl⟩
                  · exact hn u r3
                  · exact hn undef r3
                · have hv := step_isE ins fr L s hk
                  rw [h1] at hv; exact hv.elim
              · rcases q2 with ⟨c, s1, h1, h2⟩ | ⟨c, s1, W, h1, h2⟩ | ⟨f, args, s1, c, s2, W, h1, h2, h3⟩
                · obtain ⟨f, args, rfl⟩ : ∃ f args, ins = .call f args := by cases ins <;> first | exact ⟨_, _, rfl⟩ | cases hk
                  rcases step_call f args fr L s with ⟨_, _, _, e⟩ | e <;> rw [e] at h1 <;> cases h1
                · obtain ⟨f, args, rfl⟩ : ∃ f args, ins = .call f args := by cases ins <;> first | exact ⟨_, _, rfl⟩ | cases hk
                  rcases step_call f args fr L s with ⟨_, _, _, e⟩ | e <;> rw [e] at h1 <;> cases h1
                · obtain ⟨rfl, vs, p1, p2⟩ := ins_call hins henv hk h1
                  obtain ⟨⟨ok2, le1, wd1, _⟩, ⟨fn, hen⟩, hcall⟩ := hc _ _ _ _ _ _ h2 ok
                  have hb1 := hi.pst.le
                  have le2 := (evOps_st base fr hc _ h3 ⟨ok2.desc, ok2.lt⟩ (Nat.le_trans hb1 le1)).le
                  have hb := hi.pst.le
                  unfold Oper.wp
                  rw [p2 w, callFunc_run hen]
                  refine Calls.mono (hcall B m _ h w vs p1 hi.pst.hr hi.sub (hnx le1 le2)) fun e w' he => ?_
                  cases e with
                  | returned u =>
                    obtain ⟨m', h', r3, r4, r5⟩ := he
                    exact ih is os' _ (c :: L) ⟨s2.heap, s2.nxt, addW base W s2.wd⟩ hl hos (OKs.mk ok2.desc ok2.lt) h3 (a.put o.dst u) m' h' w' ((ht.mono (K' := Kx K0 base s2.nxt) (fun id hk => Kx.trans hb le1 (.inl hk)) r4.same).put g1 (VR.mono (fun id hk => Kx.trans hb le1 hk) (fun _ _ => rfl) r3)) (hi.step ok2 wd1 r4 r5)
                  | panicked _ => exact he.elim
                  | outgrown => exact he.elim
end
end Go.Pal
