/-
  What the small code's values and objects have to do with the model's: the relations, and lemmas on lists and heaps.
-/
import Derived.Test.YtmomgakmgafdeaaGreatDoorPalComp
import Derived.WalkKit
import Derived.Below
import Derived.Deep.AppendSrc
import Derived.LoopN
namespace Go.Pal
open Go.RowKit

/-! ### Lists -/
theorem nbeq_ne {a b : Nat} (h : a ≠ b) : Nat.beq a b = false := by
  cases e : Nat.beq a b with
  | false => rfl
  | true => exact absurd (Nat.eq_of_beq_eq_true e) h
theorem nbeq_self (a : Nat) : Nat.beq a a = true := Nat.beq_refl a
theorem nbeq_iff {a b : Nat} : Nat.beq a b = true ↔ a = b := ⟨Nat.eq_of_beq_eq_true, fun h => h ▸ Nat.beq_refl a⟩
theorem nbeq_eq (a b : Nat) : Nat.beq a b = (a == b) := by
  by_cases h : a = b
  · subst h; simp
  · rw [nbeq_ne h]; simp [h]
theorem nblt_iff {a b : Nat} : Nat.blt a b = true ↔ a < b := by rw [Nat.blt_eq]
theorem nble_iff {a b : Nat} : Nat.ble a b = true ↔ a ≤ b := by rw [Nat.ble_eq]
theorem nth_eq : ∀ (l : List AV) (n : Nat), nth l n = l.getD n .undef
  | [], _ => rfl
  | _ :: _, 0 => rfl
  | _ :: r, n + 1 => nth_eq r n
theorem dropA_eq : ∀ (l : List AV) (n : Nat), dropA l n = l.drop n
  | [], n => by cases n <;> rfl
  | _ :: _, 0 => rfl
  | _ :: r, n + 1 => dropA_eq r n
theorem exactly_spec : ∀ (l : List AV) (n : Nat) {r : List AV}, exactly l n = some r → r.length = n ∧ ∀ i, i < n → l[i]? = r[i]?
  | [], 0, r, h => by cases h; exact ⟨rfl, fun i hi => by omega⟩
  | [], n + 1, r, h => by cases h
  | x :: l, 0, r, h => by cases h; exact ⟨rfl, fun i hi => by omega⟩
  | x :: l, n + 1, r, h => by
    have h' : Option.casesOn (motive := fun _ => Option (List AV)) (exactly l n) none (fun r => some (x :: r)) = some r := h
    cases he : exactly l n with
    | none => rw [he] at h'; cases h'
    | some r' =>
      rw [he] at h'
      cases h'
      obtain ⟨h1, h2⟩ := exactly_spec l n he
      refine ⟨by simp [h1], fun i hi => ?_⟩
      cases i with
      | zero => rfl
      | succ i => simpa using h2 i (by omega)
theorem cellsAt_spec {c r : List AV} {off n : Nat} (h : cellsAt c off n = some r) : r.length = n ∧ ∀ i, i < n → c[off + i]? = r[i]? := by
  unfold cellsAt at h
  rw [dropA_eq] at h
  obtain ⟨h1, h2⟩ := exactly_spec _ _ h
  exact ⟨h1, fun i hi => by rw [← h2 i hi, List.getElem?_drop]⟩
theorem ovr_spec : ∀ (vs l : List AV) {r : List AV}, ovr vs l = some r → vs.length ≤ l.length ∧ r.length = l.length ∧ ∀ i, r[i]? = if i < vs.length then vs[i]? else l[i]?
  | [], l, r, h => by cases h; exact ⟨Nat.zero_le _, rfl, fun i => by simp⟩
  | v :: vs, [], r, h => by cases h
  | v :: vs, y :: l, r, h => by
    have h' : Option.casesOn (motive := fun _ => Option (List AV)) (ovr vs l) none (fun r' => some (v :: r')) = some r := h
    cases he : ovr vs l with
    | none => rw [he] at h'; cases h'
    | some r' =>
      rw [he] at h'
      cases h'
      obtain ⟨h1, h2, h3⟩ := ovr_spec vs l he
      refine ⟨by simp; omega, by simp [h2], fun i => ?_⟩
      cases i with
      | zero => simp
      | succ i => simpa using h3 i
theorem setC_spec : ∀ (l vs : List AV) (off : Nat) {r : List AV}, setC l vs off = some r → off + vs.length ≤ l.length ∧ r.length = l.length ∧ ∀ i, r[i]? = if off ≤ i ∧ i < off + vs.length then vs[i - off]? else l[i]?
  | [], vs, 0, r, h => by
    obtain ⟨h1, h2, h3⟩ := ovr_spec vs [] (show ovr vs [] = some r from h)
    exact ⟨by simpa using h1, h2, fun i => by rw [h3 i]; simp⟩
  | [], vs, n + 1, r, h => by cases h
  | x :: l, vs, 0, r, h => by
    obtain ⟨h1, h2, h3⟩ := ovr_spec vs (x :: l) (show ovr vs (x :: l) = some r from h)
    exact ⟨by simpa using h1, h2, fun i => by rw [h3 i]; simp⟩
  | x :: l, vs, n + 1, r, h => by
    have h' : Option.casesOn (motive := fun _ => Option (List AV)) (setC l vs n) none (fun r' => some (x :: r')) = some r := h
    cases he : setC l vs n with
    | none => rw [he] at h'; cases h'
    | some r' =>
      rw [he] at h'
      cases h'
      obtain ⟨h1, h2, h3⟩ := setC_spec l vs n he
      refine ⟨by simp; omega, by simp [h2], fun i => ?_⟩
      cases i with
      | zero => simp
      | succ i =>
        have e1 : (n + 1 ≤ i + 1 ∧ i + 1 < n + 1 + vs.length) ↔ (n ≤ i ∧ i < n + vs.length) := by omega
        have e2 : i + 1 - (n + 1) = i - n := by omega
        simp only [List.getElem?_cons_succ, e1, e2]
        exact h3 i
theorem lenA_eq : ∀ l : List AV, lenA l = l.length
  | [] => rfl
  | _ :: r => congrArg Nat.succ (lenA_eq r)
theorem app_eq : ∀ a b : List AV, app a b = a ++ b
  | [], _ => rfl
  | x :: a, b => congrArg (x :: ·) (app_eq a b)
theorem lenN_eq : ∀ l : List Nat, lenN l = l.length
  | [] => rfl
  | _ :: r => congrArg Nat.succ (lenN_eq r)
theorem appN_eq : ∀ a b : List Nat, appN a b = a ++ b
  | [], _ => rfl
  | x :: a, b => congrArg (x :: ·) (appN_eq a b)
theorem dropN_eq : ∀ (l : List Nat) (n : Nat), dropN l n = l.drop n
  | [], n => by cases n <;> rfl
  | _ :: _, 0 => rfl
  | _ :: r, n + 1 => dropN_eq r n
theorem takeN_eq : ∀ (l : List Nat) (n : Nat), takeN l n = l.take n
  | [], n => by cases n <;> rfl
  | _ :: _, 0 => rfl
  | x :: r, n + 1 => congrArg (x :: ·) (takeN_eq r n)
theorem nthN_eq : ∀ (l : List Nat) (n : Nat), nthN l n = l[n]?
  | [], n => by cases n <;> rfl
  | _ :: _, 0 => rfl
  | _ :: r, n + 1 => by rw [List.getElem?_cons_succ]; exact nthN_eq r n
theorem nthO_eq : ∀ (l : List AV) (n : Nat), nthO l n = l[n]?
  | [], n => by cases n <;> rfl
  | _ :: _, 0 => rfl
  | _ :: r, n + 1 => by rw [List.getElem?_cons_succ]; exact nthO_eq r n
theorem rep_zero (z : List AV) : rep 0 z = [] := rfl
theorem rep_succ (n : Nat) (z : List AV) : rep (n + 1) z = z ++ rep n z := app_eq z (rep n z)
theorem rep_length (n : Nat) (z : List AV) : (rep n z).length = n * z.length := by
  induction n with
  | zero => simp [rep_zero]
  | succ n ih => rw [rep_succ, List.length_append, ih, Nat.succ_mul, Nat.add_comm]
theorem rep_get (n : Nat) (z : List AV) (i : Nat) (h : i < n * z.length) : (rep n z)[i]? = z[i % z.length]? := by
  induction n generalizing i with
  | zero => simp at h
  | succ n ih =>
    rw [rep_succ]
    by_cases hi : i < z.length
    · rw [List.getElem?_append_left hi, Nat.mod_eq_of_lt hi]
    · rw [List.getElem?_append_right (by omega), ih (i - z.length) (by rw [Nat.succ_mul] at h; omega)]
      congr 1
      exact (Nat.mod_eq_sub_mod (by omega)).symm
theorem memN_eq : ∀ (x : Nat) (l : List Nat), memN x l = true ↔ x ∈ l
  | x, [] => by simp [show memN x [] = false from rfl]
  | x, y :: l => by
    rw [show memN x (y :: l) = (bif Nat.beq x y then true else memN x l) from rfl]
    by_cases h : x = y
    · subst h; simp
    · rw [nbeq_ne h]
      simp [memN_eq x l, h]
theorem beqN_eq : ∀ (a b : List Nat), beqN a b = (a == b)
  | [], [] => rfl
  | [], _ :: _ => rfl
  | _ :: _, [] => rfl
  | x :: a, y :: b => by
    rw [show beqN (x :: a) (y :: b) = (bif Nat.beq x y then beqN a b else false) from rfl, beqN_eq a b]
    rw [show ((x :: a) == (y :: b)) = ((x == y) && (a == b)) from rfl]
    rw [nbeq_eq]
    cases (x == y) <;> rfl

/-! ### Heaps -/
theorem get_nil (id : Nat) : get [] id = none := rfl
theorem get_cons (i : Nat) (c : List AV) (h : Heap) (id : Nat) : get ((i, c) :: h) id = if i = id then some c else get h id := by
  rw [show get ((i, c) :: h) id = (bif Nat.beq i id then some c else get h id) from rfl]
  by_cases e : i = id
  · subst e; simp
  · simp [nbeq_ne e, e]
theorem get_mem {h : Heap} {id : Nat} {c : List AV} (hg : get h id = some c) : (id, c) ∈ h := by
  induction h with
  | nil => cases hg
  | cons p h ih =>
    obtain ⟨i, d⟩ := p
    rw [get_cons] at hg
    split at hg
    · rename_i e; cases hg; subst e; exact List.mem_cons_self
    · exact List.mem_cons_of_mem _ (ih hg)

/-- Numbers fall along the heap, all below the next one. -/
structure OKs (s : St) : Prop where
  desc : s.heap.Pairwise (fun a b => b.1 < a.1)
  lt : ∀ p ∈ s.heap, p.1 < s.nxt

theorem get_of_mem {h : Heap} (hd : h.Pairwise (fun a b => b.1 < a.1)) {id : Nat} {c : List AV} (hm : (id, c) ∈ h) : get h id = some c := by
  induction h with
  | nil => cases hm
  | cons p h ih =>
    obtain ⟨i, d⟩ := p
    rw [List.pairwise_cons] at hd
    rw [get_cons]
    rcases List.mem_cons.1 hm with e | e
    · cases e; simp
    · have := hd.1 _ e
      rw [if_neg (by simp at this; omega)]
      exact ih hd.2 e
theorem get_sub {h h' : Heap} (hs : h'.Sublist h) (hd : h.Pairwise (fun a b => b.1 < a.1)) {id : Nat} {c : List AV} (hg : get h' id = some c) : get h id = some c :=
  get_of_mem hd (hs.subset (get_mem hg))
theorem OKs.sub {s : St} {h' : Heap} (ok : OKs s) (hs : h'.Sublist s.heap) {n : Nat} (hn : s.nxt ≤ n) (wd : List Nat) : OKs ⟨h', n, wd⟩ :=
  ⟨ok.desc.sublist hs, fun p hp => Nat.lt_of_lt_of_le (ok.lt p (hs.subset hp)) hn⟩
theorem OKs.getLt {s : St} (ok : OKs s) {id : Nat} {c : List AV} (hg : get s.heap id = some c) : id < s.nxt := ok.lt _ (get_mem hg)
theorem OKs.new {s : St} (ok : OKs s) (c : List AV) (wd : List Nat) : OKs ⟨(s.nxt, c) :: s.heap, Nat.succ s.nxt, wd⟩ :=
  ⟨List.pairwise_cons.2 ⟨fun p hp => ok.lt p hp, ok.desc⟩, fun p hp => by
    rcases List.mem_cons.1 hp with e | e
    · subst e; exact Nat.lt_succ_self _
    · exact Nat.lt_succ_of_lt (ok.lt p e)⟩
theorem put_nil (id : Nat) (c : List AV) : put [] id c = [] := rfl
theorem put_cons (i : Nat) (d : List AV) (h : Heap) (id : Nat) (c : List AV) : put ((i, d) :: h) id c = if i = id then (id, c) :: h else (i, d) :: put h id c := by
  rw [show put ((i, d) :: h) id c = (bif Nat.beq i id then (id, c) :: h else (i, d) :: put h id c) from rfl]
  by_cases e : i = id
  · subst e; simp
  · simp [nbeq_ne e, e]
theorem put_keys (h : Heap) (id : Nat) (c : List AV) : (put h id c).map Prod.fst = h.map Prod.fst := by
  induction h with
  | nil => rfl
  | cons p h ih =>
    obtain ⟨i, d⟩ := p
    rw [put_cons]
    split
    · rename_i e; simp [e]
    · simp [ih]
theorem get_put (h : Heap) (id : Nat) (c : List AV) (j : Nat) : get (put h id c) j = if j = id then (if (get h id).isSome then some c else none) else get h j := by
  induction h with
  | nil => simp [put_nil, get_nil]
  | cons p h ih =>
    obtain ⟨i, d⟩ := p
    rw [put_cons]
    by_cases e : i = id
    · subst e
      simp only [if_true, get_cons]
      by_cases hj : j = i
      · subst hj; simp
      · simp [hj, Ne.symm hj]
    · simp only [e, if_false, get_cons, ih]
      by_cases hj : j = id
      · subst hj; simp [e]
      · simp [hj]
theorem OKs.put {s : St} (ok : OKs s) (id : Nat) (c : List AV) (wd : List Nat) : OKs ⟨put s.heap id c, s.nxt, wd⟩ := by
  have key : ∀ (h : Heap), h.Pairwise (fun a b => b.1 < a.1) ↔ (h.map Prod.fst).Pairwise (fun a b => b < a) := fun h => by rw [List.pairwise_map]
  refine ⟨(key _).2 (by rw [put_keys]; exact (key _).1 ok.desc), fun p hp => ?_⟩
  have h1 : p.1 ∈ (Pal.put s.heap id c).map Prod.fst := List.mem_map_of_mem hp
  rw [put_keys] at h1
  obtain ⟨q, hq, he⟩ := List.mem_map.1 h1
  rw [← he]
  exact ok.lt q hq
theorem del_cons (i : Nat) (d : List AV) (h : Heap) (id : Nat) : del ((i, d) :: h) id = if i = id then h else (i, d) :: del h id := by
  rw [show del ((i, d) :: h) id = (bif Nat.beq i id then h else (i, d) :: del h id) from rfl]
  by_cases e : i = id
  · subst e; simp
  · simp [nbeq_ne e, e]
theorem del_sub (h : Heap) (id : Nat) : (del h id).Sublist h := by
  induction h with
  | nil => exact List.Sublist.refl _
  | cons p h ih =>
    obtain ⟨i, d⟩ := p
    rw [del_cons]
    split
    · exact List.sublist_cons_self _ _
    · exact ih.cons_cons _
theorem get_del {h : Heap} (hd : h.Pairwise (fun a b => b.1 < a.1)) (id j : Nat) : get (del h id) j = if j = id then none else get h j := by
  induction h with
  | nil => simp [show del [] id = [] from rfl, get_nil]
  | cons p h ih =>
    obtain ⟨i, d⟩ := p
    rw [List.pairwise_cons] at hd
    rw [del_cons]
    by_cases e : i = id
    · subst e
      simp only [if_true, get_cons]
      by_cases hj : j = i
      · subst hj
        simp only [if_true]
        cases hg : get h j with
        | none => rfl
        | some c => have := hd.1 _ (get_mem hg); simp at this
      · simp [hj, Ne.symm hj]
    · simp only [e, if_false, get_cons, ih hd.2]
      by_cases hj : j = id
      · subst hj; simp [e]
      · simp [hj]
theorem dropNew_sub (base : Nat) (h : Heap) : (dropNew base h).Sublist h := by
  induction h with
  | nil => exact List.Sublist.refl _
  | cons p h ih =>
    rw [show dropNew base (p :: h) = (bif Nat.blt p.1 base then p :: h else dropNew base h) from rfl]
    cases Nat.blt p.1 base
    · exact ih.cons _
    · exact List.Sublist.refl _
theorem keep_sub (base : Nat) (v : List Nat) (h : Heap) : (keep base v h).Sublist h := by
  induction h with
  | nil => exact List.Sublist.refl _
  | cons p h ih =>
    rw [show keep base v (p :: h) = (bif Nat.blt p.1 base then p :: h else bif memN p.1 v then p :: keep base v h else keep base v h) from rfl]
    cases Nat.blt p.1 base
    · cases memN p.1 v
      · exact ih.cons _
      · exact ih.cons_cons _
    · exact List.Sublist.refl _

/-! ### The relations -/
/-- Where an object lies: its block, its first cell there, how many cells the block has. -/
structure Loc where
  blk : Nat
  base : Nat
  tot : Nat
abbrev LM := Nat → Loc

mutual
/-- A value of the model's and an abstract one. 'K': which objects are known. -/
inductive VR (m : LM) (K : Nat → Prop) : Value → AV → Prop where
  | bool (b : Bool) : VR m K (.bool b) (.bool b)
  | int (k : IntKind) (n : Int) : VR m K (.int k n) (.int k n)
  | str (s : ByteArray) (l : List Nat) (h : s.data.toList.map UInt8.toNat = l) : VR m K (.string s) (.str l)
  | ptr (id off : Nat) (h : K id) : VR m K (.pointer (some ⟨(m id).blk, (m id).base + off, none⟩)) (.ptr id off)
  | nilptr : VR m K (.pointer none) .nilptr
  | sl (id off len cap : Nat) (h : K id) : VR m K (.slice (some ⟨(m id).blk, (m id).base + off, none⟩) len cap) (.sl id off len cap)
  | so (id off len esz cap : Nat) (h : K id) (hz : 0 < esz) (ht : (m id).base + off + cap * esz = (m id).tot) : VR m K (.slice (some ⟨(m id).blk, (m id).base + off, none⟩) len cap) (.so id off len esz)
  | nilsl : VR m K (.slice none 0 0) .nilsl
  | fn (f : Nat) (cs : List Value) (l : List AV) (h : VRL m K cs l) : VR m K (.func (.func f) #[] ⟨cs⟩) (.fn f l)
  | agg (cs : List Value) (l : List AV) (h : VRL m K cs l) : VR m K (.agg ⟨cs⟩) (.agg l)
  | tup (cs : List Value) (l : List AV) (h : VRL m K cs l) : VR m K (.tuple ⟨cs⟩) (.tup l)
  | undef (v : Value) : VR m K v .undef
inductive VRL (m : LM) (K : Nat → Prop) : List Value → List AV → Prop where
  | nil : VRL m K [] []
  | cons {v : Value} {a : AV} {vs : List Value} {as : List AV} (h : VR m K v a) (t : VRL m K vs as) : VRL m K (v :: vs) (a :: as)
end

mutual
theorem VR.mono {m m' : LM} {K K' : Nat → Prop} (hK : ∀ id, K id → K' id) (hm : ∀ id, K id → m' id = m id) : ∀ {v : Value} {a : AV}, VR m K v a → VR m' K' v a
  | _, _, .bool b => .bool b
  | _, _, .int k n => .int k n
  | _, _, .str s l h => .str s l h
  | _, _, .ptr id off h => by rw [← hm id h]; exact .ptr id off (hK id h)
  | _, _, .nilptr => .nilptr
  | _, _, .sl id off len cap h => by rw [← hm id h]; exact .sl id off len cap (hK id h)
  | _, _, .so id off len esz cap h hz ht => by rw [← hm id h] at ht ⊢; exact .so id off len esz cap (hK id h) hz ht
  | _, _, .nilsl => .nilsl
  | _, _, .fn f cs l h => .fn f cs l (VRL.mono hK hm h)
  | _, _, .agg cs l h => .agg cs l (VRL.mono hK hm h)
  | _, _, .tup cs l h => .tup cs l (VRL.mono hK hm h)
  | _, _, .undef v => .undef v
theorem VRL.mono {m m' : LM} {K K' : Nat → Prop} (hK : ∀ id, K id → K' id) (hm : ∀ id, K id → m' id = m id) : ∀ {vs : List Value} {as : List AV}, VRL m K vs as → VRL m' K' vs as
  | _, _, .nil => .nil
  | _, _, .cons h t => .cons (VR.mono hK hm h) (VRL.mono hK hm t)
end

section
variable {m : LM} {K : Nat → Prop}
theorem VRL.length {vs : List Value} {as : List AV} : VRL m K vs as → vs.length = as.length
  | .nil => rfl
  | .cons _ t => congrArg Nat.succ t.length
theorem VRL.get {vs : List Value} {as : List AV} : VRL m K vs as → ∀ (i : Nat) (a : AV), as[i]? = some a → ∃ v, vs[i]? = some v ∧ VR m K v a
  | .nil, i, a, h => by simp at h
  | .cons h t, 0, a, e => by simp at e; subst e; exact ⟨_, rfl, h⟩
  | .cons h t, i + 1, a, e => by simpa using t.get i a (by simpa using e)
theorem VRL.append {vs us : List Value} {as bs : List AV} (h : VRL m K vs as) (h' : VRL m K us bs) : VRL m K (vs ++ us) (as ++ bs) :=
  match h with
  | .nil => h'
  | .cons x t => .cons x (VRL.append t h')
/-- Cell by cell. -/
theorem VRL.of_get {vs : List Value} {as : List AV} (hl : vs.length = as.length) (h : ∀ (i : Nat) (a : AV), as[i]? = some a → ∃ v, vs[i]? = some v ∧ VR m K v a) : VRL m K vs as := by
  induction as generalizing vs with
  | nil => cases vs with
    | nil => exact .nil
    | cons _ _ => simp at hl
  | cons a as ih => cases vs with
    | nil => simp at hl
    | cons v vs =>
      obtain ⟨v', e, hv⟩ := h 0 a rfl
      simp at e
      subst e
      exact .cons hv (ih (by simpa using hl) fun i a hi => by simpa using h (i + 1) a (by simpa using hi))
theorem one?_agg (l : List AV) : one? (.agg l) = false := rfl
/-- A value that is a cell. -/
theorem VR.oneCell {v : Value} {a : AV} (h : VR m K v a) (ho : one? a = true) : v.oneCell' = true := by
  cases h <;> first | rfl | cases ho
theorem allOne_spec : ∀ {l : List AV}, allOne l = true → ∀ a ∈ l, one? a = true
  | [], _, a, ha => by cases ha
  | x :: l, h, a, ha => by
    have h' : (bif one? x then allOne l else false) = true := h
    cases hx : one? x with
    | false => rw [hx] at h'; cases h'
    | true =>
      rw [hx] at h'
      rcases List.mem_cons.1 ha with e | e
      · rw [e]; exact hx
      · exact allOne_spec h' a e
theorem VRL.oneCells {vs : List Value} {as : List AV} : VRL m K vs as → allOne as = true → ∀ v ∈ vs, v.oneCell' = true
  | .nil, _, v, hv => by cases hv
  | .cons (as := as) hx t, ho, v, hv => by
    have h1 := allOne_spec ho
    rcases List.mem_cons.1 hv with e | e
    · rw [e]; exact hx.oneCell (h1 _ List.mem_cons_self)
    · refine t.oneCells ?_ v e
      have h' : (bif one? _ then allOne as else false) = true := ho
      rw [h1 _ List.mem_cons_self] at h'
      exact h'
end
end Go.Pal
