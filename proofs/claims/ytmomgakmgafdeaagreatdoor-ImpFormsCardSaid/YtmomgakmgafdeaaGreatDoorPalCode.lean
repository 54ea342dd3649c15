/-
  Code: what the evaluator says of it holds.
-/
import Derived.Test.YtmomgakmgafdeaaGreatDoorPalFrame
namespace Go.Pal
open Go.RowKit

theorem cOper_nt {T : TT} {ps : PS} {ops : Array Oper} {v v' : Env} {o : Oper} {x : Option O} (h : cOper T ps ops v o = some (x, v')) : v'.nt = v.nt := by
  rcases cOper_spec h with ⟨_, _, _, _, _, _, _, _, rfl⟩ | ⟨_, _, rfl, _⟩ <;> rfl
theorem cOps_nt {T : TT} {ps : PS} {ops : Array Oper} : ∀ {l : List Oper} {v vf : Env} {os : List O}, cOps T ps ops l v = some (os, vf) → vf.nt = v.nt
  | [], v, vf, os, h => by cases h; rfl
  | o :: l, v, vf, os, h => by
    have h' : (match cOper T ps ops v o with
      | none => none
      | some (x, v') => match cOps T ps ops l v' with
        | none => none
        | some (l, v'') => match x with
          | none => some (l, v'')
          | some a => some (a :: l, v'')) = some (os, vf) := h
    split at h'
    · cases h'
    · rename_i x v' hx
      split at h'
      · cases h'
      · rename_i os' v'' hos
        have e : v'' = vf := by cases x <;> (cases h'; rfl)
        rw [← e, cOps_nt hos, cOper_nt hx]

theorem two_range (ops : Array Oper) : ∀ (n k : Nat), k + n = ops.size → Two (fun o i => ops[i]? = some o) (ops.toList.drop k) (List.range' k n)
  | 0, k, h => by
    rw [List.drop_eq_nil_of_le (by simp; omega)]
    exact .nil
  | n + 1, k, h => by
    have hk : k < ops.toList.length := by simp; omega
    rw [List.drop_eq_getElem_cons hk, List.range'_succ]
    exact .cons (by simp) (two_range ops n (k + 1) (by omega))

/-- A region whose order is open. -/
def DrwOk (P : Program) (T : TT) : Prop := ∀ {call : Nat → List AV → St → RF}, CallOk P call → ∀ {ps : PS} {ops : Array Oper} {nt : Nat} {l : List Nat} {q : List (O × List Nat)} {vf : Env},
  goodOrder ops (ancs ops.toList) l = true → cDrw T ps ops (ancs ops.toList) l [] ⟨[], 0, nt⟩ = some (q, vf) → ∀ {base : Nat} {fr : Tr} {s sf : St} {Lf : List AV}, evDrw call base q 0 [] fr [] s = .ok Lf sf → OKs s → base ≤ s.nxt →
  Fra base s sf ∧ vf.nt = nt ∧ ∀ {B : Nat} {m0 : LM} {K0 : Nat → Prop} {h0 : HF} {w0 : World}, Fr K0 base sf.nxt → ∀ {Q : Exit → Act → World → Prop} (id : Nat),
    Goal B base m0 K0 h0 w0 ps vf fr Lf sf (Q .normal) → Goal B base m0 K0 h0 w0 ps ⟨[], 0, nt⟩ fr [] s (fun a w => (Code.region id ops true).wp P Q a w)

def rcSt : RC → Option St
  | .no => none
  | .nrm _ s => some s
  | .ext _ _ s => some s
  | .ret _ s => some s

section
variable (B base : Nat) (m0 : LM) (K0 : Nat → Prop) (h0 : HF) (w0 : World) (D : Nat) (ps : PS) (nt : Nat)
def FGoal (fr : Tr) (s : St) (R : Act → World → Prop) : Prop := ∀ a m h w, FrR D ps nt m (Kx K0 base s.nxt) fr a → Inv B base m0 K0 h0 w0 s m h w → R a w
def Post (Q : Exit → Act → World → Prop) : RC → Prop
  | .no => True
  | .nrm fr s => FGoal B base m0 K0 h0 w0 D ps nt fr s (Q .normal)
  | .ext n fr s => FGoal B base m0 K0 h0 w0 D ps nt fr s (Q (.exit n))
  | .ret fr s => FGoal B base m0 K0 h0 w0 D ps nt fr s (Q .ret)
end

def CodeOk (P : Program) (T : TT) (ct : CT) : Prop := ∀ D ps od nt, okPs D ps = true → ∀ c C, cC T ps od nt c = some C → ∀ base fr s sf, rcSt (ct C base fr s) = some sf → OKs s → base ≤ s.nxt →
  Fra base s sf ∧ ∀ B m0 K0 h0 w0, Fr K0 base sf.nxt → ∀ Q, Post B base m0 K0 h0 w0 D ps nt Q (ct C base fr s) → FGoal B base m0 K0 h0 w0 D ps nt fr s (fun a w => c.wp P Q a w)
def LoopOk (P : Program) (T : TT) (ct : CT) : Prop := ∀ D ps od nt, okPs D ps = true → ∀ c C, cC T ps od nt c = some C → ∀ base fr s sf, rcSt (ct (.loop C) base fr s) = some sf → OKs s → base ≤ s.nxt →
  Fra base s sf ∧ ∃ n, ∀ B m0 K0 h0 w0, Fr K0 base sf.nxt → ∀ Q, Post B base m0 K0 h0 w0 D ps nt Q (ct (.loop C) base fr s) → FGoal B base m0 K0 h0 w0 D ps nt fr s (fun a w => Code.rounds P c Q n a w)

theorem Fr.mono {K : Nat → Prop} {a b c : Nat} (h : Fr K a c) (hb : b ≤ c) : Fr K a b := fun id h1 h2 => h id h1 (Nat.lt_of_lt_of_le h2 hb)

section
variable {P : Program} {T : TT} {ih : CT × FT}

theorem loop_step (hc : CodeOk P T ih.1) (hl : LoopOk P T ih.1) : LoopOk P T (stC ih) := by
  intro D ps od nt hk c C hC base fr s sf hrc ok hb
  have e : stC ih (.loop C) base fr s = RC.casesOn (motive := fun _ => RC) (ih.1 C base fr s) .no (fun fr s => ih.1 (.loop C) base fr s) .ext .ret := rfl
  rw [e] at hrc ⊢
  cases h1 : ih.1 C base fr s with
  | no => rw [h1] at hrc; cases hrc
  | nrm fr1 s1 =>
    rw [h1] at hrc
    obtain ⟨F1, g1⟩ := hc D ps od nt hk c C hC base fr s s1 (by rw [h1]; rfl) ok hb
    obtain ⟨F2, n, g2⟩ := hl D ps od nt hk c C hC base fr1 s1 sf hrc F1.ok (Nat.le_trans hb F1.le)
    refine ⟨F1.trans F2, n + 1, fun B m0 K0 h0 w0 hfr Q hp => ?_⟩
    rw [h1] at g1
    exact g1 B m0 K0 h0 w0 (hfr.mono F2.le) _ (g2 B m0 K0 h0 w0 hfr Q hp)
  | ext n fr1 s1 =>
    rw [h1] at hrc
    have e1 : s1 = sf := Option.some.inj hrc
    subst e1
    obtain ⟨F1, g1⟩ := hc D ps od nt hk c C hC base fr s s1 (by rw [h1]; rfl) ok hb
    rw [h1] at g1
    exact ⟨F1, 1, fun B m0 K0 h0 w0 hfr Q hp => g1 B m0 K0 h0 w0 hfr _ hp⟩
  | ret fr1 s1 =>
    rw [h1] at hrc
    have e1 : s1 = sf := Option.some.inj hrc
    subst e1
    obtain ⟨F1, g1⟩ := hc D ps od nt hk c C hC base fr s s1 (by rw [h1]; rfl) ok hb
    rw [h1] at g1
    exact ⟨F1, 1, fun B m0 K0 h0 w0 hfr Q hp => g1 B m0 K0 h0 w0 hfr _ hp⟩

theorem bad_reg (call : Nat → List AV → St → RF) (base : Nat) (fr : Tr) (L : List AV) (s : St) : evOps call base [⟨none, .bad⟩] fr L s = .no := rfl

theorem code_step (hT : ∀ t ti, T t = some ti → TIr P t ti) (hD : DrwOk P T) (hc : CodeOk P T ih.1) (hl : LoopOk P T (stC ih)) (hf : CallOk P ih.2) : CodeOk P T (stC ih) := by
  intro D ps od nt hk c C hC base fr s sf hrc ok hb
  cases c with
  | skip =>
    cases hC
    cases hrc
    exact ⟨.refl ok, fun B m0 K0 h0 w0 hfr Q hp a m h w ha hi => wp_skip (hp a m h w ha hi)⟩
  | ret =>
    cases hC
    cases hrc
    exact ⟨.refl ok, fun B m0 K0 h0 w0 hfr Q hp a m h w ha hi => wp_ret (hp a m h w ha hi)⟩
  | exit n =>
    cases hC
    cases hrc
    exact ⟨.refl ok, fun B m0 K0 h0 w0 hfr Q hp a m h w ha hi => wp_exit (hp a m h w ha hi)⟩
  | seq x y =>
    simp only [cC] at hC
    split at hC
    · rename_i X Y hX hY
      cases hC
      have e : stC ih (.seq X Y) base fr s = RC.casesOn (motive := fun _ => RC) (ih.1 X base fr s) .no (fun fr s => ih.1 Y base fr s) .ext .ret := rfl
      rw [e] at hrc ⊢
      cases h1 : ih.1 X base fr s with
      | no => rw [h1] at hrc; cases hrc
      | nrm fr1 s1 =>
        rw [h1] at hrc
        obtain ⟨F1, g1⟩ := hc D ps od nt hk x X hX base fr s s1 (by rw [h1]; rfl) ok hb
        obtain ⟨F2, g2⟩ := hc D ps od nt hk y Y hY base fr1 s1 sf hrc F1.ok (Nat.le_trans hb F1.le)
        refine ⟨F1.trans F2, fun B m0 K0 h0 w0 hfr Q hp a m h w ha hi => wp_seq ?_⟩
        rw [h1] at g1
        exact g1 B m0 K0 h0 w0 (hfr.mono F2.le) (Exit.then (y.wp P Q) Q) (g2 B m0 K0 h0 w0 hfr Q hp) a m h w ha hi
      | ext n fr1 s1 =>
        rw [h1] at hrc
        have e1 : s1 = sf := Option.some.inj hrc
        subst e1
        obtain ⟨F1, g1⟩ := hc D ps od nt hk x X hX base fr s s1 (by rw [h1]; rfl) ok hb
        rw [h1] at g1
        exact ⟨F1, fun B m0 K0 h0 w0 hfr Q hp a m h w ha hi => wp_seq (g1 B m0 K0 h0 w0 hfr (Exit.then (y.wp P Q) Q) hp a m h w ha hi)⟩
      | ret fr1 s1 =>
        rw [h1] at hrc
        have e1 : s1 = sf := Option.some.inj hrc
        subst e1
        obtain ⟨F1, g1⟩ := hc D ps od nt hk x X hX base fr s s1 (by rw [h1]; rfl) ok hb
        rw [h1] at g1
        exact ⟨F1, fun B m0 K0 h0 w0 hfr Q hp a m h w ha hi => wp_seq (g1 B m0 K0 h0 w0 hfr (Exit.then (y.wp P Q) Q) hp a m h w ha hi)⟩
    · cases hC
  | cond x y z =>
    simp only [cC] at hC
    split at hC
    · rename_i X Y Z hX hY hZ
      cases hC
      have e : stC ih (.cond X Y Z) base fr s = (match rd X fr [] with | .bool t => Bool.casesOn (motive := fun _ => RC) t (ih.1 Z base fr s) (ih.1 Y base fr s) | _ => .no) := rfl
      have hv : ∀ {m K a}, FrR D ps nt m K fr a → VR m K (a.eval x) (rd X fr []) := fun ha => by
        obtain ⟨e, he, rfl⟩ := map_some' (show (cE ps ⟨[], 0, nt⟩ x).map (toX 0) = some X from hX)
        exact (ha.tmp.use [match x with | .tmp t => t | _ => 0]).ofE (fun t ht => by subst ht; exact List.mem_cons_self) he
      rw [e] at hrc ⊢
      cases hbx : rd X fr [] <;> first | (rw [hbx] at hrc; cases hrc; done) | skip
      rename_i t
      rw [hbx] at hrc
      have hev : ∀ {m K a}, FrR D ps nt m K fr a → a.eval x = .bool t := fun ha => by
        have := hv ha
        rw [hbx] at this
        generalize hx : Act.eval _ x = xa at this
        cases this
        rfl
      cases t with
      | true =>
        obtain ⟨q, g⟩ := hc D ps od nt hk y Y hY base fr s sf hrc ok hb
        exact ⟨q, fun B m0 K0 h0 w0 hfr Q hp a m h w ha hi => wp_cond (hev ha) (by simpa using g B m0 K0 h0 w0 hfr Q hp a m h w ha hi)⟩
      | false =>
        obtain ⟨q, g⟩ := hc D ps od nt hk z Z hZ base fr s sf hrc ok hb
        exact ⟨q, fun B m0 K0 h0 w0 hfr Q hp a m h w ha hi => wp_cond (hev ha) (by simpa using g B m0 K0 h0 w0 hfr Q hp a m h w ha hi)⟩
    · cases hC
  | block n b =>
    simp only [cC] at hC
    obtain ⟨C', hC', rfl⟩ := map_some' hC
    have e : stC ih (.block n C') base fr s = RC.casesOn (motive := fun _ => RC) (ih.1 C' base fr s) .no .nrm (fun m fr s => bif Nat.beq m n then .nrm fr s else .ext m fr s) .ret := rfl
    rw [e] at hrc ⊢
    cases h1 : ih.1 C' base fr s with
    | no => rw [h1] at hrc; cases hrc
    | nrm fr1 s1 =>
      rw [h1] at hrc
      have e1 : s1 = sf := Option.some.inj hrc
      subst e1
      obtain ⟨q, g1⟩ := hc D ps od nt hk b C' hC' base fr s s1 (by rw [h1]; rfl) ok hb
      rw [h1] at g1
      exact ⟨q, fun B m0 K0 h0 w0 hfr Q hp a m h w ha hi => wp_block (g1 B m0 K0 h0 w0 hfr (Exit.inBlock n Q) hp a m h w ha hi)⟩
    | ret fr1 s1 =>
      rw [h1] at hrc
      have e1 : s1 = sf := Option.some.inj hrc
      subst e1
      obtain ⟨q, g1⟩ := hc D ps od nt hk b C' hC' base fr s s1 (by rw [h1]; rfl) ok hb
      rw [h1] at g1
      exact ⟨q, fun B m0 K0 h0 w0 hfr Q hp a m h w ha hi => wp_block (g1 B m0 K0 h0 w0 hfr (Exit.inBlock n Q) hp a m h w ha hi)⟩
    | ext k fr1 s1 =>
      rw [h1] at hrc
      have e1 : s1 = sf := by
        revert hrc
        show rcSt (bif Nat.beq k n then .nrm fr1 s1 else .ext k fr1 s1) = some sf → _
        cases Nat.beq k n <;> (intro h; exact Option.some.inj h)
      subst e1
      obtain ⟨q, g1⟩ := hc D ps od nt hk b C' hC' base fr s s1 (by rw [h1]; rfl) ok hb
      rw [h1] at g1
      refine ⟨q, fun B m0 K0 h0 w0 hfr Q hp a m h w ha hi => wp_block (g1 B m0 K0 h0 w0 hfr (Exit.inBlock n Q) ?_ a m h w ha hi)⟩
      intro a' m' h' w' ha' hi'
      have hp' : Post B base m0 K0 h0 w0 D ps nt Q (bif Nat.beq k n then .nrm fr1 s1 else .ext k fr1 s1) := hp
      show (if k = n then Q .normal a' w' else Q (.exit k) a' w')
      by_cases e : k = n
      · subst e
        rw [nbeq_self] at hp'
        rw [if_pos rfl]
        exact hp' a' m' h' w' ha' hi'
      · rw [nbeq_ne e] at hp'
        rw [if_neg e]
        exact hp' a' m' h' w' ha' hi'
  | loop b =>
    simp only [cC] at hC
    obtain ⟨C', hC', rfl⟩ := map_some' hC
    obtain ⟨q, n, g⟩ := hl D ps od nt hk b C' hC' base fr s sf hrc ok hb
    exact ⟨q, fun B m0 K0 h0 w0 hfr Q hp a m h w ha hi => wp_loop_rounds n (g B m0 K0 h0 w0 hfr Q hp a m h w ha hi)⟩
  | region id ops dr =>
    cases dr with
    | false =>
      simp only [cC] at hC
      split at hC
      · rename_i os vf hos
        cases hC
        have e : stC ih (.reg os (cUpd ps vf ps)) base fr s = RO.casesOn (motive := fun _ => RC) (evOps ih.2 base os fr [] s) .no (fun L s => .nrm (upds (cUpd ps vf ps) fr L fr) s) := rfl
        rw [e] at hrc ⊢
        cases h1 : evOps ih.2 base os fr [] s with
        | no => rw [h1] at hrc; cases hrc
        | ok Lf s1 =>
          rw [h1] at hrc
          have e1 : s1 = sf := Option.some.inj hrc
          subst e1
          refine ⟨evOps_st base fr hf os h1 ok hb, fun B m0 K0 h0 w0 hfr Q hp a m h w ha hi => wp_region ?_⟩
          have hr := two_range ops ops.size 0 (by omega)
          rw [← List.range_eq_range'] at hr
          refine ops_sim hT hf (ps := ps) (ops := ops) (Q := Q) hfr ?_ _ _ os _ [] s hr hos ok h1 a m h w ha.tmp hi
          intro a' m' h' w' ht' hi'
          have hnt : vf.nt = nt := cOps_nt hos
          have hfrm := ht'.frame hk ha.shape
          rw [hnt] at hfrm
          exact hp a' m' h' w' hfrm hi'
      · cases hC
    | true =>
      simp only [cC] at hC
      split at hC
      · rename_i l hl'
        obtain ⟨hg, hC⟩ := bif_some hC
        split at hC
        · rename_i q vf hq
          cases hC
          have e : stC ih (.drw q (cUpd ps vf ps)) base fr s = RO.casesOn (motive := fun _ => RC) (evDrw ih.2 base q 0 [] fr [] s) .no (fun L s => .nrm (upds (cUpd ps vf ps) fr L fr) s) := rfl
          rw [e] at hrc ⊢
          cases h1 : evDrw ih.2 base q 0 [] fr [] s with
          | no => rw [h1] at hrc; cases hrc
          | ok Lf s1 =>
            rw [h1] at hrc
            have e1 : s1 = sf := Option.some.inj hrc
            subst e1
            obtain ⟨q1, hnt, g⟩ := hD hf hg hq h1 ok hb
            refine ⟨q1, fun B m0 K0 h0 w0 hfr Q hp a m h w ha hi => g hfr id ?_ a m h w ha.tmp hi⟩
            intro a' m' h' w' ht' hi'
            have hfrm := ht'.frame hk ha.shape
            rw [hnt] at hfrm
            exact hp a' m' h' w' hfrm hi'
        · cases hC
      · cases hC
  | _ =>
    cases hC
    cases hrc
end
end Go.Pal
