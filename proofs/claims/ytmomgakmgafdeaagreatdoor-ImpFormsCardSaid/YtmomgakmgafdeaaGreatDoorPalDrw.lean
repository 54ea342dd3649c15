/-
  A region whose order is open: what must stand ahead of what; the small code's way through it.
-/
import Derived.Test.YtmomgakmgafdeaaGreatDoorPalFunc
namespace Go.Pal
open Go.RowKit

/-! ### What must stand ahead -/
section
variable (ops : Array Oper)
/-- Whatever must be ahead of one of these is one of these. -/
def Closed (S : Nat → Prop) : Prop := ∀ x o, S x → ops[x]? = some o → ∀ e ∈ o.after.toList, sure e = true → S e.on
def Direct (j : Nat) (S : Nat → Prop) : Prop := ∀ o, ops[j]? = some o → ∀ e ∈ o.after.toList, sure e = true → S e.on
def Good (j i : Nat) : Prop := ∀ S, Closed ops S → Direct ops j S → S i
end

theorem testBit_or' (a b i : Nat) : Nat.testBit (a ||| b) i = (Nat.testBit a i || Nat.testBit b i) := Nat.testBit_or a b i

theorem ancOne_spec (acc : List Nat) (o : Oper) {i : Nat} (h : Nat.testBit (ancOne acc o) i = true) : ∃ e ∈ o.after.toList, sure e = true ∧ (i = e.on ∨ Nat.testBit (acc.getD e.on 0) i = true) := by
  unfold ancOne at h
  have key : ∀ (l : List Edge) (s : Nat), Nat.testBit (l.foldl (fun s e => bif sure e then s ||| 2 ^ e.on ||| acc.getD e.on 0 else s) s) i = true → Nat.testBit s i = true ∨ ∃ e ∈ l, sure e = true ∧ (i = e.on ∨ Nat.testBit (acc.getD e.on 0) i = true) := by
    intro l
    induction l with
    | nil => intro s h; exact .inl h
    | cons e l ih =>
      intro s h
      rw [List.foldl_cons] at h
      rcases ih _ h with h1 | ⟨e', h1, h2⟩
      · cases hs : sure e with
        | false => rw [hs] at h1; exact .inl h1
        | true =>
          rw [hs] at h1
          simp only [cond_true, Nat.testBit_or, Bool.or_eq_true] at h1
          rcases h1 with (h1 | h1) | h1
          · exact .inl h1
          · refine .inr ⟨e, List.mem_cons_self, hs, .inl ?_⟩
            rw [Nat.testBit_two_pow] at h1
            exact (of_decide_eq_true h1).symm
          · exact .inr ⟨e, List.mem_cons_self, hs, .inr h1⟩
      · exact .inr ⟨e', List.mem_cons_of_mem _ h1, h2⟩
  rcases key _ _ h with h1 | h1
  · simp at h1
  · exact h1

theorem ancs_good (ops : Array Oper) : ∀ j i, Nat.testBit ((ancs ops.toList).getD j 0) i = true → Good ops j i := by
  have key : ∀ (r : List Oper) (acc : List Nat), ops.toList.drop acc.length = r → (∀ j i, Nat.testBit (acc.getD j 0) i = true → Good ops j i) → ∀ j i, Nat.testBit ((r.foldl (fun acc o => acc ++ [ancOne acc o]) acc).getD j 0) i = true → Good ops j i := by
    intro r
    induction r with
    | nil => intro acc _ h; exact h
    | cons o r ih =>
      intro acc hd h
      rw [List.foldl_cons]
      have hlt : acc.length < ops.toList.length := by
        rcases Nat.lt_or_ge acc.length ops.toList.length with g | g
        · exact g
        · rw [List.drop_eq_nil_of_le g] at hd; cases hd
      rw [List.drop_eq_getElem_cons hlt] at hd
      obtain ⟨ho, hr⟩ := List.cons.inj hd
      refine ih _ (by simpa using hr) fun j i hb => ?_
      by_cases e : j < acc.length
      · refine h j i ?_
        rw [List.getD_eq_getElem?_getD, List.getElem?_append_left e, ← List.getD_eq_getElem?_getD] at hb
        exact hb
      · by_cases e2 : j = acc.length
        · subst e2
          have hb' : Nat.testBit (ancOne acc o) i = true := by
            rw [List.getD_eq_getElem?_getD, List.getElem?_append_right (Nat.le_refl _), Nat.sub_self] at hb
            simpa using hb
          obtain ⟨ed, h1, h2, h3⟩ := ancOne_spec acc o hb'
          intro S hc hdd
          have hoj : ops[acc.length]? = some o := by
            have : ops.toList[acc.length]? = some o := by rw [List.getElem?_eq_getElem hlt, ho]
            simpa using this
          have hS := hdd o hoj ed h1 h2
          rcases h3 with rfl | h3
          · exact hS
          · exact h ed.on i h3 S hc fun o' ho' e' he' hs' => hc _ o' hS ho' e' he' hs'
        · have : (acc ++ [ancOne acc o]).getD j 0 = 0 := by
            rw [List.getD_eq_getElem?_getD, List.getElem?_eq_none (by simp; omega)]; rfl
          rw [this] at hb
          simp at hb
  exact key ops.toList [] rfl (fun j i h => by simp at h)

theorem sure_binds (e : Edge) : sure e = Region.binds .any e := by
  unfold sure Region.binds
  cases e.ground <;> rfl

theorem subBit_spec {a b : Nat} (h : subBit a b = true) {i : Nat} (hi : Nat.testBit a i = true) : Nat.testBit b i = true := by
  have := nbeq_iff.1 h
  rw [← this, Nat.testBit_and] at hi
  exact (and3 hi).2

/-! ### The order -/
/-- What the look through the order has shown. -/
structure Ord (ops : Array Oper) (an l : List Nat) : Prop where
  nodup : l.Nodup
  all : ∀ i, i < ops.size → i ∈ l
  lt : ∀ i ∈ l, i < ops.size
  anc : ∀ k j i, l[k]? = some j → Nat.testBit (an.getD j 0) i = true → i ∈ l.take k
  eff : ∀ k j o, l[k]? = some j → ops[j]? = some o → isEff o = true → ∀ i ∈ l.take k, Nat.testBit (an.getD j 0) i = true
  one : ∀ i j oi oj d, ops[i]? = some oi → ops[j]? = some oj → oi.dst = some d → i ≠ j → oj.dst ≠ some d ∧ (d ∈ usesOf ops oj → Nat.testBit (an.getD j 0) i = true ∨ Nat.testBit (an.getD i 0) j = true)

theorem goodWalk_spec {ops : Array Oper} {an : List Nat} : ∀ (r : List Nat) (done : Nat) (pre : List Nat), (∀ i, Nat.testBit done i = true ↔ i ∈ pre) → goodWalk ops an done r = true →
    r.Nodup ∧ (∀ i ∈ r, i ∉ pre) ∧ (∀ i, i < ops.size → i ∈ pre ∨ i ∈ r) ∧ (∀ i ∈ r, i < ops.size) ∧
    (∀ k j i, r[k]? = some j → Nat.testBit (an.getD j 0) i = true → i ∈ pre ∨ i ∈ r.take k) ∧
    (∀ k j o, r[k]? = some j → ops[j]? = some o → isEff o = true → ∀ i, (i ∈ pre ∨ i ∈ r.take k) → Nat.testBit (an.getD j 0) i = true)
  | [], done, pre, hp, h => by
    refine ⟨List.nodup_nil, (fun i hi => by cases hi), fun i hi => .inl ?_, (fun i hi => by cases hi), fun k j i hk => by simp at hk, fun k j o hk => by simp at hk⟩
    have := List.all_eq_true.1 (show ((List.range ops.size).all fun i => Nat.testBit done i) = true from h) i (List.mem_range.2 hi)
    exact (hp i).1 this
  | a :: r, done, pre, hp, h => by
    have h' : (match ops[a]? with
      | none => false
      | some o => !Nat.testBit done a && subBit (an.getD a 0) done && (!isEff o || subBit done (an.getD a 0)) && goodWalk ops an (done ||| 2 ^ a) r) = true := h
    split at h'
    · cases h'
    · rename_i o ho
      obtain ⟨h', h4⟩ := and3 h'
      obtain ⟨h', h3⟩ := and3 h'
      obtain ⟨h1, h2⟩ := and3 h'
      have hna : a ∉ pre := fun hm => by rw [(hp a).2 hm] at h1; cases h1
      have hp' : ∀ i, Nat.testBit (done ||| 2 ^ a) i = true ↔ i ∈ a :: pre := fun i => by
        rw [Nat.testBit_or, Bool.or_eq_true, hp i, Nat.testBit_two_pow, List.mem_cons]
        constructor
        · rintro (g | g)
          · exact .inr g
          · exact .inl (of_decide_eq_true g).symm
        · rintro (g | g)
          · exact .inr (decide_eq_true g.symm)
          · exact .inl g
      obtain ⟨i1, i2, i3, i4, i5, i6⟩ := goodWalk_spec r _ (a :: pre) hp' h4
      refine ⟨List.nodup_cons.2 ⟨fun hm => i2 a hm List.mem_cons_self, i1⟩, fun i hi => ?_, fun i hi => ?_, fun i hi => ?_, fun k j i hk hb => ?_, fun k j o' hk ho' he i hi => ?_⟩
      · rcases List.mem_cons.1 hi with rfl | hi
        · exact hna
        · exact fun hm => i2 i hi (List.mem_cons_of_mem _ hm)
      · rcases i3 i hi with g | g
        · rcases List.mem_cons.1 g with rfl | g
          · exact .inr List.mem_cons_self
          · exact .inl g
        · exact .inr (List.mem_cons_of_mem _ g)
      · rcases List.mem_cons.1 hi with rfl | hi
        · exact (Array.getElem?_eq_some_iff.1 ho).1
        · exact i4 i hi
      · cases k with
        | zero =>
          simp at hk
          subst hk
          exact .inl ((hp i).1 (subBit_spec h2 hb))
        | succ k =>
          simp only [List.getElem?_cons_succ] at hk
          rcases i5 k j i hk hb with g | g
          · rcases List.mem_cons.1 g with rfl | g
            · exact .inr (by simp)
            · exact .inl g
          · exact .inr (by simp [g])
      · cases k with
        | zero =>
          simp at hk
          subst hk
          rw [ho] at ho'
          cases ho'
          rw [he] at h3
          rcases hi with hi | hi
          · exact subBit_spec (show subBit done (an.getD a 0) = true from h3) ((hp i).2 hi)
          · simp at hi
        | succ k =>
          simp only [List.getElem?_cons_succ] at hk
          refine i6 k j o' hk ho' he i ?_
          rcases hi with hi | hi
          · exact .inl (List.mem_cons_of_mem _ hi)
          · simp only [List.take_succ_cons, List.mem_cons] at hi
            rcases hi with rfl | hi
            · exact .inl List.mem_cons_self
            · exact .inr hi

theorem goodOrder_spec {ops : Array Oper} {an l : List Nat} (h : goodOrder ops an l = true) : Ord ops an l := by
  obtain ⟨h1, h2⟩ := and3 h
  obtain ⟨i1, i2, i3, i4, i5, i6⟩ := goodWalk_spec l 0 [] (fun i => by simp) h1
  refine ⟨i1, fun i hi => (i3 i hi).resolve_left (by simp), i4, fun k j i hk hb => (i5 k j i hk hb).resolve_left (by simp), fun k j o hk ho he i hi => i6 k j o hk ho he i (.inr hi), ?_⟩
  intro i j oi oj d hi hj hd hne
  have hil := (Array.getElem?_eq_some_iff.1 hi).1
  have hjl := (Array.getElem?_eq_some_iff.1 hj).1
  have g := List.all_eq_true.1 h2 i (List.mem_range.2 hil)
  simp only [hi, hd] at g
  have g2 := List.all_eq_true.1 g j (List.mem_range.2 hjl)
  unfold bound at g2
  rw [nbeq_ne hne, hj] at g2
  simp only [Bool.false_or, Bool.and_eq_true, bne_iff_ne, ne_eq, Bool.or_eq_true, Bool.not_eq_true', List.contains_eq_mem, decide_eq_false_iff_not] at g2
  refine ⟨g2.1, fun hm => ?_⟩
  rcases g2.2 with (g3 | g3) | g3
  · exact absurd hm g3
  · exact .inl g3
  · exact .inr g3
end Go.Pal
