/-
  A region whose order is open: the small code's way through it, step by step.
-/
import Derived.Test.YtmomgakmgafdeaaGreatDoorPalDrw
namespace Go.Pal
open Go.RowKit

structure DSt where
  v : Env
  L : List AV
  s : St

/-- One operation of the way. 'ok': which rows of objects may be read. -/
def Stp (T : TT) (ps : PS) (ops : Array Oper) (call : Nat → List AV → St → RF) (base : Nat) (fr : Tr) (ok : List Nat → Prop) (o : Oper) (x y : DSt) (W : List Nat) : Prop :=
  ∃ r, cOper T ps ops x.v o = some (r, y.v) ∧
    ((r = none ∧ y.L = x.L ∧ y.s = x.s ∧ W = []) ∨
     ∃ oo c, r = some oo ∧ y.L = c :: x.L ∧
      ((wanted oo.g fr x.L = some false ∧ c = .tup [] ∧ y.s = x.s ∧ W = []) ∨
       (wanted oo.g fr x.L = some true ∧ ok (reads oo.i fr x.L) ∧
         ((step oo.i fr x.L x.s = .val c y.s ∧ W = []) ∨
          (∃ s1, step oo.i fr x.L x.s = .eff c s1 W ∧ y.s = ⟨s1.heap, s1.nxt, addW base W s1.wd⟩) ∨
          (∃ f args s1 s2, step oo.i fr x.L x.s = .call f args s1 ∧ call f args s1 = .ok c s2 W ∧ y.s = ⟨s2.heap, s2.nxt, addW base W s2.wd⟩)))))

abbrev Hist := List (Nat × List Nat)
def histOk (an : List Nat) (j : Nat) (hs : Hist) (rs : List Nat) : Prop := ∀ p ∈ hs, Nat.testBit (an.getD j 0) p.1 = false → ∀ id ∈ rs, id ∉ p.2

/-- The way, by places. -/
structure Way (T : TT) (ps : PS) (ops : Array Oper) (call : Nat → List AV → St → RF) (base : Nat) (fr : Tr) (an : List Nat) (l : List Nat) (d : Nat → DSt) (W : Nat → List Nat) (hs : Nat → Hist) : Prop where
  stp : ∀ k j, l[k]? = some j → ∃ o, ops[j]? = some o ∧ Stp T ps ops call base fr (histOk an j (hs k)) o (d k) (d (k + 1)) (W k) ∧ hs (k + 1) = (bif isEff o then (j, W k) :: hs k else hs k)

theorem freeEs_spec (an : Nat) : ∀ (es : List (Nat × Nat)) (p : Nat × Nat), p ∈ es → Nat.testBit an p.1 = false → p.2 ∈ freeEs an es
  | [], p, h, _ => by cases h
  | (i, k) :: r, p, h, hb => by
    show p.2 ∈ (bif Nat.testBit an i then freeEs an r else k :: freeEs an r)
    rcases List.mem_cons.1 h with rfl | h
    · rw [hb]; exact List.mem_cons_self
    · have := freeEs_spec an r p h hb
      cases Nat.testBit an i
      · exact List.mem_cons_of_mem _ this
      · exact this
theorem disj_spec (b : List Nat) : ∀ (a : List Nat), disj a b = true → ∀ id ∈ a, id ∉ b
  | [], _, id, h => by cases h
  | x :: a, h, id, hid => by
    have h' : (bif memN x b then false else disj a b) = true := h
    cases hm : memN x b with
    | true => rw [hm] at h'; cases h'
    | false =>
      rw [hm] at h'
      rcases List.mem_cons.1 hid with rfl | hid
      · exact fun hb => by rw [(memN_eq _ _).2 hb] at hm; cases hm
      · exact disj_spec b a h' id hid
theorem clear_spec (r na : List Nat) : ∀ (wl : List (Nat × List Nat)), clear r na wl = true → ∀ p ∈ wl, p.1 ∈ na → ∀ id ∈ r, id ∉ p.2
  | [], _, p, h, _ => by cases h
  | q :: wl, h, p, hp, hna => by
    have h' : (bif memN q.1 na then (bif disj r q.2 then clear r na wl else false) else clear r na wl) = true := h
    cases hm : memN q.1 na with
    | true =>
      rw [hm] at h'
      cases hd : disj r q.2 with
      | false => rw [hd] at h'; cases h'
      | true =>
        rw [hd] at h'
        rcases List.mem_cons.1 hp with rfl | hp
        · exact disj_spec _ _ hd
        · exact clear_spec r na wl h' p hp hna
    | false =>
      rw [hm] at h'
      rcases List.mem_cons.1 hp with rfl | hp
      · rw [(memN_eq _ _).2 hna] at hm; cases hm
      · exact clear_spec r na wl h' p hp hna

theorem cDrw_cons {T : TT} {ps : PS} {ops : Array Oper} {an : List Nat} {j : Nat} {r : List Nat} {es : List (Nat × Nat)} {v vf : Env} {q : List (O × List Nat)} (h : cDrw T ps ops an (j :: r) es v = some (q, vf)) :
    ∃ o x v', ops[j]? = some o ∧ cOper T ps ops v o = some (x, v') ∧ ((x = none ∧ cDrw T ps ops an r es v' = some (q, vf)) ∨
      ∃ a q', x = some a ∧ cDrw T ps ops an r (bif isEff o then (j, v.cnt) :: es else es) v' = some (q', vf) ∧ q = (a, freeEs (an.getD j 0) es) :: q') := by
  have h' : (match ops[j]? with
    | none => none
    | some o => match cOper T ps ops v o with
      | none => none
      | some (x, v') => match x with
        | none => cDrw T ps ops an r es v'
        | some a => match cDrw T ps ops an r (bif isEff o then (j, v.cnt) :: es else es) v' with
          | none => none
          | some (l, v'') => some ((a, freeEs (an.getD j 0) es) :: l, v'')) = some (q, vf) := h
  split at h'
  · cases h'
  · rename_i o ho
    split at h'
    · cases h'
    · rename_i x v' hx
      split at h'
      · exact ⟨o, none, v', ho, hx, .inl ⟨rfl, h'⟩⟩
      · rename_i a
        split at h'
        · cases h'
        · rename_i l v'' hl
          cases h'
          exact ⟨o, some a, v', ho, hx, .inr ⟨a, l, rfl, hl, rfl⟩⟩

theorem evDrw_cons {call : Nat → List AV → St → RF} {base : Nat} {fr : Tr} {o : O × List Nat} {os : List (O × List Nat)} {k : Nat} {wl : List (Nat × List Nat)} {L Lf : List AV} {s sf : St} (h : evDrw call base (o :: os) k wl fr L s = .ok Lf sf) :
    (wanted o.1.g fr L = some false ∧ evDrw call base os (Nat.succ k) wl fr (.tup [] :: L) s = .ok Lf sf) ∨
    (wanted o.1.g fr L = some true ∧ (o.2 = [] ∨ clear (reads o.1.i fr L) o.2 wl = true) ∧
      ((∃ c s1, step o.1.i fr L s = .val c s1 ∧ evDrw call base os (Nat.succ k) wl fr (c :: L) s1 = .ok Lf sf) ∨
       (∃ c s1 W, step o.1.i fr L s = .eff c s1 W ∧ evDrw call base os (Nat.succ k) (addL k W wl) fr (c :: L) ⟨s1.heap, s1.nxt, addW base W s1.wd⟩ = .ok Lf sf) ∨
       (∃ f args s1 c s2 W, step o.1.i fr L s = .call f args s1 ∧ call f args s1 = .ok c s2 W ∧ evDrw call base os (Nat.succ k) (addL k W wl) fr (c :: L) ⟨s2.heap, s2.nxt, addW base W s2.wd⟩ = .ok Lf sf))) := by
  change Option.casesOn (motive := fun _ => RO) (wanted o.1.g fr L) .no (fun t => Bool.casesOn (motive := fun _ => RO) t (evDrw call base os (Nat.succ k) wl fr (.tup [] :: L) s)
      (Bool.casesOn (motive := fun _ => RO) (List.casesOn (motive := fun _ => Bool) o.2 true fun _ _ => clear (reads o.1.i fr L) o.2 wl) .no
        (R.casesOn (motive := fun _ => RO) (step o.1.i fr L s) .no
          (fun v s => evDrw call base os (Nat.succ k) wl fr (v :: L) s)
          (fun v s w => evDrw call base os (Nat.succ k) (addL k w wl) fr (v :: L) ⟨s.heap, s.nxt, addW base w s.wd⟩)
          (fun f args s => RF.casesOn (motive := fun _ => RO) (call f args s) .no (fun v s w => evDrw call base os (Nat.succ k) (addL k w wl) fr (v :: L) ⟨s.heap, s.nxt, addW base w s.wd⟩))))) = .ok Lf sf at h
  cases hw : wanted o.1.g fr L with
  | none => rw [hw] at h; cases h
  | some t =>
    rw [hw] at h
    cases t with
    | false => exact .inl ⟨rfl, h⟩
    | true =>
      have tail : (R.casesOn (motive := fun _ => RO) (step o.1.i fr L s) .no
          (fun v s => evDrw call base os (Nat.succ k) wl fr (v :: L) s)
          (fun v s w => evDrw call base os (Nat.succ k) (addL k w wl) fr (v :: L) ⟨s.heap, s.nxt, addW base w s.wd⟩)
          (fun f args s => RF.casesOn (motive := fun _ => RO) (call f args s) .no (fun v s w => evDrw call base os (Nat.succ k) (addL k w wl) fr (v :: L) ⟨s.heap, s.nxt, addW base w s.wd⟩)) : RO) = .ok Lf sf →
          ((∃ c s1, step o.1.i fr L s = .val c s1 ∧ evDrw call base os (Nat.succ k) wl fr (c :: L) s1 = .ok Lf sf) ∨
           (∃ c s1 W, step o.1.i fr L s = .eff c s1 W ∧ evDrw call base os (Nat.succ k) (addL k W wl) fr (c :: L) ⟨s1.heap, s1.nxt, addW base W s1.wd⟩ = .ok Lf sf) ∨
           (∃ f args s1 c s2 W, step o.1.i fr L s = .call f args s1 ∧ call f args s1 = .ok c s2 W ∧ evDrw call base os (Nat.succ k) (addL k W wl) fr (c :: L) ⟨s2.heap, s2.nxt, addW base W s2.wd⟩ = .ok Lf sf)) := by
        intro h
        cases hs : step o.1.i fr L s with
        | no => rw [hs] at h; cases h
        | val v s1 => rw [hs] at h; exact .inl ⟨v, s1, rfl, h⟩
        | eff v s1 W => rw [hs] at h; exact .inr (.inl ⟨v, s1, W, rfl, h⟩)
        | call f args s1 =>
          rw [hs] at h
          cases hc : call f args s1 with
          | no => simp only [hc] at h; cases h
          | ok v s2 W => simp only [hc] at h; exact .inr (.inr ⟨f, args, s1, v, s2, W, rfl, hc, h⟩)
      clear hw
      obtain ⟨oo, na⟩ := o
      cases na with
      | nil => exact .inr ⟨rfl, .inl rfl, tail h⟩
      | cons a b =>
        cases hcl : clear (reads oo.i fr L) (a :: b) wl with
        | false =>
          simp only [hcl] at h
          cases h
        | true =>
          simp only [hcl] at h
          exact .inr ⟨rfl, .inr rfl, tail h⟩

def shift {α : Type} (a : α) (f : Nat → α) : Nat → α
  | 0 => a
  | k + 1 => f k

theorem cOper_cnt {T : TT} {ps : PS} {ops : Array Oper} {v v' : Env} {o : Oper} {x : Option O} (h : cOper T ps ops v o = some (x, v')) : v'.cnt = (match x with | none => v.cnt | some _ => v.cnt + 1) := by
  rcases cOper_spec h with ⟨_, _, _, _, _, _, _, rfl, rfl⟩ | ⟨_, rfl, rfl, _⟩ <;> rfl
theorem isMove_noEff {T : TT} {ps : PS} {ops : Array Oper} {v v' : Env} {o : Oper} (h : cOper T ps ops v o = some (none, v')) : isEff o = false := by
  rcases cOper_spec h with ⟨_, _, _, h1, _⟩ | ⟨_, h1, _⟩
  · obtain ⟨_, h2 | h2⟩ := isMove_spec h1 <;> (unfold isEff; rw [h2])
  · cases h1

theorem addL_spec {k : Nat} {W : List Nat} {wl : List (Nat × List Nat)} : (∀ p ∈ wl, p ∈ addL k W wl) ∧ (W = [] ∨ (k, W) ∈ addL k W wl) := by
  cases W with
  | nil => exact ⟨fun p h => h, .inl rfl⟩
  | cons a W => exact ⟨fun p h => List.mem_cons_of_mem _ h, .inr List.mem_cons_self⟩

/-- The history and the evaluator's rows agree. -/
def HE (wl : List (Nat × List Nat)) (hs : Hist) (es : List (Nat × Nat)) : Prop := Two (fun (h : Nat × List Nat) (e : Nat × Nat) => h.1 = e.1 ∧ (h.2 = [] ∨ (e.2, h.2) ∈ wl)) hs es
theorem Two.imp {α β : Type} {R R' : α → β → Prop} (h : ∀ a b, R a b → R' a b) : ∀ {as : List α} {bs : List β}, Two R as bs → Two R' as bs
  | _, _, .nil => .nil
  | _, _, .cons x t => .cons (h _ _ x) (Two.imp h t)
theorem Two.mem {α β : Type} {R : α → β → Prop} : ∀ {as : List α} {bs : List β}, Two R as bs → ∀ a ∈ as, ∃ b ∈ bs, R a b
  | _, _, .nil, a, h => by cases h
  | _, _, .cons x t, a, h => by
    rcases List.mem_cons.1 h with rfl | h
    · exact ⟨_, List.mem_cons_self, x⟩
    · obtain ⟨b, h1, h2⟩ := Two.mem t a h
      exact ⟨b, List.mem_cons_of_mem _ h1, h2⟩

theorem way_of {T : TT} {ps : PS} {ops : Array Oper} {call : Nat → List AV → St → RF} {base : Nat} {fr : Tr} {an : List Nat} {vf : Env} {Lf : List AV} {sf : St} :
    ∀ (l : List Nat) (es : List (Nat × Nat)) (v : Env) (q : List (O × List Nat)) (wl : List (Nat × List Nat)) (L : List AV) (s : St) (hs0 : Hist), cDrw T ps ops an l es v = some (q, vf) → evDrw call base q v.cnt wl fr L s = .ok Lf sf → HE wl hs0 es →
    ∃ d W hs, Way T ps ops call base fr an l d W hs ∧ d 0 = ⟨v, L, s⟩ ∧ d l.length = ⟨vf, Lf, sf⟩ ∧ hs 0 = hs0
  | [], es, v, q, wl, L, s, hs0, hc, he, hh => by
    cases hc
    cases he
    exact ⟨fun _ => ⟨vf, Lf, sf⟩, fun _ => [], fun _ => hs0, ⟨fun k j hk => by simp at hk⟩, rfl, rfl, rfl⟩
  | j :: r, es, v, q, wl, L, s, hs0, hc, he, hh => by
    obtain ⟨o, x, v', ho, hx, hcase⟩ := cDrw_cons hc
    have hcnt := cOper_cnt hx
    -- one step, and the rest
    have fin : ∀ (y : DSt) (W0 : List Nat) (d : Nat → DSt) (W : Nat → List Nat) (hs : Nat → Hist), Stp T ps ops call base fr (histOk an j hs0) o ⟨v, L, s⟩ y W0 → Way T ps ops call base fr an r d W hs → d 0 = y → d r.length = ⟨vf, Lf, sf⟩ → hs 0 = (bif isEff o then (j, W0) :: hs0 else hs0) →
        ∃ d W hs, Way T ps ops call base fr an (j :: r) d W hs ∧ d 0 = ⟨v, L, s⟩ ∧ d (j :: r).length = ⟨vf, Lf, sf⟩ ∧ hs 0 = hs0 := by
      intro y W0 d W hs h1 h2 h3 h4 h5
      refine ⟨shift ⟨v, L, s⟩ d, shift W0 W, shift hs0 hs, ⟨fun k i hk => ?_⟩, rfl, h4, rfl⟩
      cases k with
      | zero =>
        simp at hk
        subst hk
        exact ⟨o, ho, by rw [← h3] at h1; exact h1, h5⟩
      | succ k =>
        simp only [List.getElem?_cons_succ] at hk
        exact h2.stp k i hk
    have rd : ∀ (na : List Nat) (rs : List Nat), (∀ p ∈ es, Nat.testBit (an.getD j 0) p.1 = false → p.2 ∈ na) → (na = [] ∨ clear rs na wl = true) → histOk an j hs0 rs := by
      intro na rs h1 h2 p hp hb id hid
      obtain ⟨e, he1, he2, he3⟩ := hh.mem p hp
      have hm := h1 e he1 (by rw [← he2]; exact hb)
      rcases h2 with h2 | h2
      · rw [h2] at hm; cases hm
      · rcases he3 with he3 | he3
        · rw [he3]; simp
        · exact clear_spec rs na wl h2 _ he3 hm id hid
    rcases hcase with ⟨rfl, hc'⟩ | ⟨a, q', rfl, hc', rfl⟩
    · have hcnt' : v'.cnt = v.cnt := hcnt
      obtain ⟨d, W, hs, h1, h2, h3, h4⟩ := way_of r es v' q wl L s hs0 hc' (by rw [hcnt']; exact he) hh
      exact fin ⟨v', L, s⟩ [] d W hs ⟨none, hx, .inl ⟨rfl, rfl, rfl, rfl⟩⟩ h1 h2 h3 (by rw [isMove_noEff hx]; exact h4)
    · have hcnt' : v'.cnt = Nat.succ v.cnt := hcnt
      have hfree : ∀ p ∈ es, Nat.testBit (an.getD j 0) p.1 = false → p.2 ∈ freeEs (an.getD j 0) es := fun p hp hb => freeEs_spec _ es p hp hb
      have hhe : ∀ (W : List Nat) (wl' : List (Nat × List Nat)), (∀ p ∈ wl, p ∈ wl') → (W = [] ∨ (v.cnt, W) ∈ wl') → HE wl' (bif isEff o then (j, W) :: hs0 else hs0) (bif isEff o then (j, v.cnt) :: es else es) := by
        intro W wl' h1 h2
        have := hh.imp (R' := fun (h : Nat × List Nat) (e : Nat × Nat) => h.1 = e.1 ∧ (h.2 = [] ∨ (e.2, h.2) ∈ wl')) (fun a b hab => ⟨hab.1, hab.2.imp id (h1 _)⟩)
        cases isEff o with
        | true => exact .cons ⟨rfl, h2⟩ this
        | false => exact this
      rcases evDrw_cons he with ⟨g1, g2⟩ | ⟨g1, gc, ⟨c, s1, g2, g3⟩ | ⟨c, s1, W0, g2, g3⟩ | ⟨f, args, s1, c, s2, W0, g2, g3, g4⟩⟩
      · obtain ⟨d, W, hs, h1, h2, h3, h4⟩ := way_of r _ v' q' wl _ s (bif isEff o then (j, []) :: hs0 else hs0) hc' (by rw [hcnt']; exact g2) (hhe [] wl (fun _ h => h) (.inl rfl))
        exact fin ⟨v', _, s⟩ [] d W hs ⟨some a, hx, .inr ⟨a, _, rfl, rfl, .inl ⟨g1, rfl, rfl, rfl⟩⟩⟩ h1 h2 h3 h4
      · obtain ⟨d, W, hs, h1, h2, h3, h4⟩ := way_of r _ v' q' wl _ s1 (bif isEff o then (j, []) :: hs0 else hs0) hc' (by rw [hcnt']; exact g3) (hhe [] wl (fun _ h => h) (.inl rfl))
        exact fin ⟨v', _, s1⟩ [] d W hs ⟨some a, hx, .inr ⟨a, c, rfl, rfl, .inr ⟨g1, rd _ _ hfree gc, .inl ⟨g2, rfl⟩⟩⟩⟩ h1 h2 h3 h4
      · obtain ⟨d, W, hs, h1, h2, h3, h4⟩ := way_of r _ v' q' _ _ _ (bif isEff o then (j, W0) :: hs0 else hs0) hc' (by rw [hcnt']; exact g3) (hhe W0 _ addL_spec.1 addL_spec.2)
        exact fin ⟨v', _, _⟩ W0 d W hs ⟨some a, hx, .inr ⟨a, c, rfl, rfl, .inr ⟨g1, rd _ _ hfree gc, .inr (.inl ⟨s1, g2, rfl⟩)⟩⟩⟩ h1 h2 h3 h4
      · obtain ⟨d, W, hs, h1, h2, h3, h4⟩ := way_of r _ v' q' _ _ _ (bif isEff o then (j, W0) :: hs0 else hs0) hc' (by rw [hcnt']; exact g4) (hhe W0 _ addL_spec.1 addL_spec.2)
        exact fin ⟨v', _, _⟩ W0 d W hs ⟨some a, hx, .inr ⟨a, c, rfl, rfl, .inr ⟨g1, rd _ _ hfree gc, .inr (.inr ⟨f, args, s1, s2, g2, g3, rfl⟩)⟩⟩⟩ h1 h2 h3 h4
end Go.Pal
