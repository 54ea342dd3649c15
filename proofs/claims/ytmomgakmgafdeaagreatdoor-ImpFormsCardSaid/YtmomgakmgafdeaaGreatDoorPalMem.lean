/-
  The operations that make memory, or write it.
-/
import Derived.Test.YtmomgakmgafdeaaGreatDoorPalOps
import Derived.Laws.IdiomStrings
namespace Go.Pal
open Go.RowKit

/-- Two rows of one length, one by one. -/
inductive Two {α β : Type} (R : α → β → Prop) : List α → List β → Prop where
  | nil : Two R [] []
  | cons {a : α} {b : β} {as : List α} {bs : List β} (h : R a b) (t : Two R as bs) : Two R (a :: as) (b :: bs)

section
variable {P : Program} {B : Nat} {m : LM} {K : Nat → Prop} {h : HF} {w : World} {t : TypeId} {ti : TI}

/-- A block of these cells is made: an object of its first ones. -/
theorem HR.allocP (x : HR B m K h w) {id : Nat} (hid : ¬ K id) (e : TypeId) (fz : Nat × Nat) {cs : Array Value} {c : List AV} {us : List Value} (hc : VRL m K us c) (hone : allOne c = true)
    (hpre : ∀ (j : Nat) (u : Value), us[j]? = some u → cs[j]? = some u) (hl : c.length ≤ cs.size) (hfz : cs.size ≤ fz.1 ∨ fz = (0, 0)) :
    Pst B id (Nat.succ id) [] m K h w (updF m id ⟨w.heap.size, 0, cs.size⟩) (updF h id (some c)) (w.alloc (.cells cs e fz)) := by
  have hg : (w.alloc (.cells cs e fz)).heap[w.heap.size]? = some (.cells cs e fz) := by simp [World.alloc, -World.alloc_eq]
  have hcell : ∀ j, (w.alloc (.cells cs e fz)).cell? ⟨w.heap.size, j, none⟩ = cs[j]? := fun j => by
    unfold World.cell?
    simp only [hg]
    simp
  refine x.makeP (Keeps.alloc w _) ((Below.refl B w).alloc x.big _) hid (Nat.le_refl _) (by simp) (fun o ho => ?_) (fun o ho => ?_) hl hc hone (fun j u hu => by rw [hcell]; exact hpre j u hu)
  · rw [hcell]; simp [ho]
  · unfold World.frozen?
    simp only [hg]
    rcases hfz with hfz | hfz
    · have : ¬ fz.1 ≤ o := by omega
      simp [this]
    · subst hfz
      simp

theorem Pst.fromDrew {a b : Nat} {W : List Nat} {m' : LM} {h' : HF} {w' : World} (x : Pst B a b W m K h w.drew m' h' w') : Pst B a b W m K h w m' h' w' :=
  ⟨x.le, x.same, x.hr, x.old, x.more, ((Below.refl B w).drew).trans x.below⟩

/-- What comes of an operation that makes an object: 'c' its cells. -/
def Makes (P : Program) (B : Nat) (w : World) (x : Sem Value) (m : LM) (K : Nat → Prop) (h : HF) (id : Nat) (c : List AV) (v : AV) : Prop :=
  ∃ u w' m', x.run P w = .ok u w' ∧ VR m' (Kx K id (Nat.succ id)) u v ∧ Pst B id (Nat.succ id) [] m K h w m' (updF h id (some c)) w'

theorem newO_of {s : St} {c : List AV} {f : Nat → St → R} {r : R} (h : newO s c f = r) (hr : r ≠ .no) : allOne c = true ∧ f s.nxt ⟨(s.nxt, c) :: s.heap, Nat.succ s.nxt, s.wd⟩ = r := cond_of h hr

theorem kx_new {K : Nat → Prop} {id : Nat} : Kx K id (Nat.succ id) id := .inr ⟨Nat.le_refl _, Nat.lt_succ_self _⟩

theorem box_ok (x : HR B m K h w) (e : TypeId) {u : Value} {a : AV} (hu : VR m K u a) {c : List AV} (hc : cellsV a = some c) (hone : allOne c = true) {id : Nat} (hid : ¬ K id) :
    Makes P B w (Instr.box e u) m K h id c (.ptr id 0) := by
  have hv := hu.cells hc
  refine ⟨.pointer (some ⟨w.heap.size, 0, none⟩), _, _, by simp [Instr.box, newVar, newRow]; rfl, ?_, x.allocP hid e (0, 0) hv hone (fun j v hj => by simpa using hj) (by rw [← hv.length]; simp) (.inr rfl)⟩
  have := VR.ptr (m := updF m id ⟨w.heap.size, 0, u.cells.size⟩) (K := Kx K id (Nat.succ id)) id 0 kx_new
  rw [updF_same] at this
  exact this

theorem alloc_ok (x : HR B m K h w) (hT : TIr P t ti) {z : AV} (hz : ti.z = some z) {c : List AV} (hc : cellsV z = some c) (hone : allOne c = true) {id : Nat} (hid : ¬ K id) :
    Makes P B w (Instr.alloc t true (.tuple #[])) m K h id c (.ptr id 0) := by
  obtain ⟨i, hi, _, _, hzz⟩ := hT.info
  rw [hz] at hzz
  obtain ⟨zv, hzv, rfl⟩ : ∃ zv, i.zero = some zv ∧ absV zv = z := by
    cases hq : i.zero with
    | none => rw [hq] at hzz; cases hzz
    | some zv => rw [hq] at hzz; exact ⟨zv, rfl, (Option.some.inj hzz).symm⟩
  have hu := absV_ok m K zv
  obtain ⟨u, w', m', h1, h2, h3⟩ := box_ok (P := P) x t hu hc hone hid
  refine ⟨u, w', m', ?_, h2, h3⟩
  rw [← h1]
  simp [Instr.alloc, Instr.box, zeroValue_run t hi hzv]

/-! ### Structs, arrays, slices out of parts -/
theorem setCells_list (us : List Value) : ∀ (j off : Nat) (cs : Array Value), off + j + us.length ≤ cs.size →
    let r := (us.zipIdx j).foldl (fun (cs : Array Value) (p : Value × Nat) => cs.setIfInBounds (off + p.2) p.1) cs
    r.size = cs.size ∧ ∀ i, r[i]? = if off + j ≤ i ∧ i < off + j + us.length then us[i - (off + j)]? else cs[i]? := by
  induction us with
  | nil => intro j off cs _; exact ⟨rfl, fun i => by simp; omega⟩
  | cons u us ih =>
    intro j off cs hfit
    simp only [List.length_cons] at hfit
    have := ih (j + 1) off (cs.setIfInBounds (off + j) u) (by simp; omega)
    simp only [List.zipIdx_cons, List.foldl_cons]
    refine ⟨by rw [this.1]; simp, fun i => ?_⟩
    rw [this.2 i]
    simp only [List.length_cons]
    by_cases h1 : off + j = i
    · subst h1
      rw [if_neg (by omega), if_pos (by omega)]
      have : off + j < cs.size := by omega
      simp [this]
    · by_cases h2 : off + (j + 1) ≤ i ∧ i < off + (j + 1) + us.length
      · rw [if_pos h2, if_pos (by omega)]
        rw [show i - (off + j) = (i - (off + (j + 1))) + 1 by omega, List.getElem?_cons_succ]
      · rw [if_neg h2, if_neg (by omega)]
        simp [h1]

theorem fill_cons (fr : Tr) (L : List AV) (q : Nat × Nat × X) (ps : List (Nat × Nat × X)) (z : List AV) {l : List AV} (h : fill fr L (q :: ps) z = some l) :
    ∃ us z', cellsV (rd q.2.2 fr L) = some us ∧ us.length = q.2.1 ∧ setC z us q.1 = some z' ∧ fill fr L ps z' = some l := by
  have h' : Option.casesOn (motive := fun _ => Option (List AV)) (cellsV (rd q.2.2 fr L)) none (fun vs => bif Nat.beq (lenA vs) q.2.1 then Option.casesOn (motive := fun _ => Option (List AV)) (setC z vs q.1) none (fill fr L ps) else none) = some l := h
  cases hc : cellsV (rd q.2.2 fr L) with
  | none => rw [hc] at h'; cases h'
  | some us =>
    rw [hc] at h'
    cases hb : Nat.beq (lenA us) q.2.1 with
    | false => simp only [hb] at h'; cases h'
    | true =>
      simp only [hb] at h'
      cases hs : setC z us q.1 with
      | none => rw [hs] at h'; cases h'
      | some z' =>
        rw [hs] at h'
        exact ⟨us, z', rfl, by rw [← lenA_eq]; exact nbeq_iff.1 hb, hs, h'⟩

theorem fill_ok (place : Nat → Option (Nat × Nat)) (fr : Tr) (L : List AV) : ∀ (vs : List (Nat × Value)) (ps : List (Nat × Nat × X)) (cs : List Value) (c l : List AV), VRL m K cs c →
    (Two (fun (p : Nat × Value) (q : Nat × Nat × X) => place p.1 = some (q.1, q.2.1) ∧ VR m K p.2 (rd q.2.2 fr L)) vs ps) →
    fill fr L ps c = some l → ∃ us, Instr.fill place ⟨cs⟩ vs = some ⟨us⟩ ∧ VRL m K us l := by
  intro vs
  induction vs with
  | nil =>
    intro ps cs c l hv hf hl
    cases hf
    cases hl
    exact ⟨cs, rfl, hv⟩
  | cons p vs ih =>
    intro ps cs c l hv hf hl
    cases hf with
    | cons h1 hf =>
      rename_i q ps
      obtain ⟨i, v⟩ := p
      obtain ⟨us, c', hc, hn, hs, hl'⟩ := fill_cons fr L q ps c hl
      obtain ⟨off, n, a⟩ := q
      simp only at hc hn hs h1
      obtain ⟨g1, g2, g3⟩ := setC_spec c us off hs
      have hvs := h1.2.cells hc
      have hsz : v.cells.size = us.length := by rw [← hvs.length]; simp
      have hcl := hv.length
      have key := setCells_list v.cells.toList 0 off ⟨cs⟩ (by simp; omega)
      simp only [Nat.add_zero] at key
      have hfold : (v.cells.zipIdx.foldl (fun (cs : Array Value) (p : Value × Nat) => cs.setIfInBounds (off + p.2) p.1) ⟨cs⟩) = (v.cells.toList.zipIdx.foldl (fun (cs : Array Value) (p : Value × Nat) => cs.setIfInBounds (off + p.2) p.1) ⟨cs⟩) := by
        rw [← Array.foldl_toList]; congr 1; simp
      generalize hr : (v.cells.toList.zipIdx.foldl (fun (cs : Array Value) (p : Value × Nat) => cs.setIfInBounds (off + p.2) p.1) ⟨cs⟩) = r at key hfold
      have hlen : v.cells.toList.length = us.length := by rw [Array.length_toList]; exact hsz
      have hv' : VRL m K r.toList c' := by
        refine VRL.of_get ?_ fun k b hb => ?_
        · rw [Array.length_toList, key.1, g2, ← hcl]; rfl
        · rw [g3 k] at hb
          rw [Array.getElem?_toList, key.2 k]
          by_cases hin : off ≤ k ∧ k < off + us.length
          · rw [if_pos hin] at hb
            rw [if_pos (by rw [hlen]; exact hin)]
            exact hvs.get _ b hb
          · rw [if_neg hin] at hb
            rw [if_neg (by rw [hlen]; exact hin)]
            obtain ⟨v', e1, e2⟩ := hv.get k b hb
            exact ⟨v', by simpa using e1, e2⟩
      obtain ⟨us', e1, e2⟩ := ih ps r.toList c' l hv' hf hl'
      refine ⟨us', ?_, e2⟩
      simp only [Instr.fill, h1.1]
      have c1 : ¬ ((v.cells.size ≠ n || off + v.cells.size > (⟨cs⟩ : Array Value).size) = true) := by
        have : (⟨cs⟩ : Array Value).size = cs.length := rfl
        simp only [Bool.or_eq_true, decide_eq_true_eq]
        omega
      have hfold' : (v.cells.zipIdx.foldl (fun cs x => match x with | (c, j) => cs.setIfInBounds (off + j) c) ⟨cs⟩) = r := hfold
      simp only [hfold']
      rw [if_neg (by simpa using c1)]
      exact e1

theorem zcells_ok (m : LM) (K : Nat → Prop) (zv : Value) : VRL m K zv.cells.toList (zcells (some (absV zv))) := by
  have hv := absV_ok m K zv
  cases zv with
  | agg cs =>
    obtain ⟨l⟩ := cs
    simp only [absV] at hv ⊢
    exact absL_ok m K l
  | _ =>
    all_goals
      generalize ha : absV _ = a at *
      have hna : ∀ l, a ≠ .agg l := fun l e => by subst e; cases hv
      have e : zcells (some a) = [a] := by
        cases a <;> first | rfl | exact absurd rfl (hna _)
      rw [e]
      exact .cons hv .nil

theorem absCells_ok (hT : TIr P t ti) {z : AV} (hz : ti.z = some z) (m : LM) (K : Nat → Prop) : ∃ i zv, P.info? t = some i ∧ i.size = ti.size ∧ i.zero = some zv ∧ VRL m K zv.cells.toList (zcells (some z)) := by
  obtain ⟨i, hi, hs, _, hzz⟩ := hT.info
  rw [hz] at hzz
  obtain ⟨zv, hzv, rfl⟩ : ∃ zv, i.zero = some zv ∧ absV zv = z := by
    cases hq : i.zero with
    | none => rw [hq] at hzz; cases hzz
    | some zv => rw [hq] at hzz; exact ⟨zv, rfl, (Option.some.inj hzz).symm⟩
  exact ⟨i, zv, hi, hs, hzv, zcells_ok m K zv⟩

theorem build_ok (hT : TIr P t ti) {z : AV} (hz : ti.z = some z) (fr : Tr) (L : List AV) {vs : Array (Nat × Value)} {ps : List (Nat × Nat × X)}
    (hp : (ti.k = .struct ∧ Two (fun (p : Nat × Value) (q : Nat × Nat × X) => (ti.fs[p.1]?).map (fun f => (f.1, f.2.1)) = some (q.1, q.2.1) ∧ VR m K p.2 (rd q.2.2 fr L)) vs.toList ps) ∨
      (∃ n te, ti.k = .array n ∧ TIr P ti.elem te ∧ Two (fun (p : Nat × Value) (q : Nat × Nat × X) => some (p.1 * te.size, te.size) = some (q.1, q.2.1) ∧ VR m K p.2 (rd q.2.2 fr L)) vs.toList ps))
    {l : List AV} (hl : fill fr L ps (zcells (some z)) = some l) : Gives P (Instr.build t vs) m K (.agg l) := by
  obtain ⟨i, zv, hi, hsz, hzv, hv⟩ := absCells_ok hT hz m K
  rcases hp with ⟨hk, hp⟩ | ⟨n, te, hk, hE, hp⟩
  · obtain ⟨fs, hund, hfs⟩ := hT.struct hk
    have hall := hT.fields fs hund
    have hinfo : ∀ f ∈ fs.toList, ∃ i, P.info? f.type = some i ∧ P.cellsOf f.type = i.size := fun f hf => by
      obtain ⟨i, hi⟩ := info_of_und (hall f hf)
      exact ⟨i, hi, by simp [Program.cellsOf, hi]⟩
    have hmap : ∀ w : World, (fs.mapM (fun f => (do pure (f.offset, ← sizeOf f.type) : Sem (Nat × Nat)))).run P w = .ok (fs.map fun f => (f.offset, P.cellsOf f.type)) w := by
      intro w
      rw [Array.mapM_eq_mapM_toList]
      have : ∀ (l : List Field), (∀ f ∈ l, ∃ i, P.info? f.type = some i ∧ P.cellsOf f.type = i.size) → (l.mapM (fun f => (do pure (f.offset, ← sizeOf f.type) : Sem (Nat × Nat)))).run P w = .ok (l.map fun f => (f.offset, P.cellsOf f.type)) w := by
        intro l
        induction l with
        | nil => intro _; simp
        | cons f l ih =>
          intro hl
          obtain ⟨i, hi, hc⟩ := hl f List.mem_cons_self
          have := ih (fun g hg => hl g (List.mem_cons_of_mem _ hg))
          simp only [List.mapM_cons, Sem.run_bind, sizeOf_run f.type hi, Result.andThen_ok, Sem.run_pure, this, List.map_cons, hc]
      simp only [Sem.run_map, this fs.toList hinfo, Result.andThen_ok]
      congr 1
      apply Array.ext'
      simp
    obtain ⟨us, h1, h2⟩ := fill_ok (fun i => (fs.map fun f => (f.offset, P.cellsOf f.type))[i]?) fr L vs.toList ps zv.cells.toList _ l hv (by
      have key : ∀ p : Nat, (fs.map fun f => (f.offset, P.cellsOf f.type))[p]? = (ti.fs[p]?).map (fun f => (f.1, f.2.1)) := fun p => by
        rw [hfs]; simp [Array.getElem?_map]; cases fs[p]? <;> rfl
      simpa [key] using hp) hl
    refine ⟨.agg ⟨us⟩, fun w => ?_, .agg _ _ h2⟩
    simp only [Instr.build, Sem.run_bind, zeroValue_run t hi hzv, Result.andThen_ok, run_underlying hund, hmap]
    have e : (⟨zv.cells.toList⟩ : Array Value) = zv.cells := rfl
    rw [e] at h1
    simp only [h1, Sem.run_pure]
  · obtain ⟨j, hj, hjs, _, _⟩ := hE.info
    obtain ⟨us, h1, h2⟩ := fill_ok (fun i => some (i * te.size, te.size)) fr L vs.toList ps zv.cells.toList _ l hv hp hl
    refine ⟨.agg ⟨us⟩, fun w => ?_, .agg _ _ h2⟩
    simp only [Instr.build, Sem.run_bind, zeroValue_run t hi hzv, Result.andThen_ok, run_underlying (hT.array hk), sizeOf_run ti.elem hj, hjs]
    have e : (⟨zv.cells.toList⟩ : Array Value) = zv.cells := rfl
    rw [e] at h1
    simp only [h1, Sem.run_pure]
end
end Go.Pal
