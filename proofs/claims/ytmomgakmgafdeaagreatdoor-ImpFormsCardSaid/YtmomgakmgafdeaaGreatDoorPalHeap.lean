/-
  Objects of the small heap in the model's memory: reading, writing, making, growing.
-/
import Derived.Test.YtmomgakmgafdeaaGreatDoorPalRel
namespace Go.Pal
open Go.RowKit

/-- An object of these cells lies in memory. -/
structure OR (B : Nat) (m : LM) (K : Nat → Prop) (w : World) (id : Nat) (c : List AV) : Prop where
  low : B ≤ (m id).blk
  lt : (m id).blk < w.heap.size
  there : ∀ o, o < (m id).tot → (w.cell? ⟨(m id).blk, o, none⟩).isSome = true
  froz : ∀ o, (m id).base ≤ o → o < (m id).tot → w.frozen? ⟨(m id).blk, o, none⟩ = false
  fits : (m id).base + c.length ≤ (m id).tot
  cell : ∀ (i : Nat) (v : AV), c[i]? = some v → ∃ u, w.cell? ⟨(m id).blk, (m id).base + i, none⟩ = some u ∧ VR m K u v ∧ one? v = true

abbrev HF := Nat → Option (List AV)

/-- All objects lie in memory, each in a block of its own. -/
structure HR (B : Nat) (m : LM) (K : Nat → Prop) (h : HF) (w : World) : Prop where
  big : B ≤ w.heap.size
  known : ∀ id c, h id = some c → K id
  obj : ∀ id c, h id = some c → OR B m K w id c
  inj : ∀ i j c d, h i = some c → h j = some d → i ≠ j → (m i).blk ≠ (m j).blk

def Sub (s : St) (h : HF) : Prop := ∀ id c, get s.heap id = some c → h id = some c

/-- Known objects behind new ones, from a to below b. -/
def Kx (K : Nat → Prop) (a b : Nat) : Nat → Prop := fun id => K id ∨ (a ≤ id ∧ id < b)
theorem Kx.le {K : Nat → Prop} {a b : Nat} : ∀ id, K id → Kx K a b id := fun _ h => .inl h

/-- What behind a step is as it was, and what holds then. -/
structure Pst (B : Nat) (a b : Nat) (W : List Nat) (m : LM) (K : Nat → Prop) (h : HF) (w : World) (m' : LM) (h' : HF) (w' : World) : Prop where
  le : a ≤ b
  same : ∀ id, K id → m' id = m id
  hr : HR B m' (Kx K a b) h' w'
  old : ∀ id, id < a → id ∉ W → h' id = h id
  more : ∀ id, b ≤ id → h' id = h id
  below : Below B w w'

/-- The new ones are not known yet. -/
def Fr (K : Nat → Prop) (a b : Nat) : Prop := ∀ id, a ≤ id → id < b → ¬ K id

theorem Kx.same {K : Nat → Prop} {a : Nat} {id : Nat} : Kx K a a id ↔ K id := ⟨fun h => h.elim (fun x => x) (fun x => by omega), .inl⟩
theorem HR.weak {B : Nat} {m : LM} {K K' : Nat → Prop} {h : HF} {w : World} (x : HR B m K h w) (hK : ∀ id, K id → K' id) : HR B m K' h w :=
  ⟨x.big, fun id c hc => hK id (x.known id c hc), fun id c hc =>
    let o := x.obj id c hc
    ⟨o.low, o.lt, o.there, o.froz, o.fits, fun i v hv => let ⟨u, h1, h2, h3⟩ := o.cell i v hv; ⟨u, h1, h2.mono hK (fun _ _ => rfl), h3⟩⟩, x.inj⟩
theorem HR.dropTo {B : Nat} {m : LM} {K : Nat → Prop} {h h' : HF} {w : World} (x : HR B m K h w) (hs : ∀ id c, h' id = some c → h id = some c) : HR B m K h' w :=
  ⟨x.big, fun id c hc => x.known id c (hs id c hc), fun id c hc => x.obj id c (hs id c hc), fun i j c d hi hj => x.inj i j c d (hs i c hi) (hs j d hj)⟩

theorem Pst.refl {B a : Nat} {m : LM} {K : Nat → Prop} {h : HF} {w : World} (x : HR B m K h w) : Pst B a a [] m K h w m h w :=
  ⟨Nat.le_refl _, fun _ _ => rfl, x.weak Kx.le, fun _ _ _ => rfl, fun _ _ => rfl, Below.refl _ _⟩
/-- One step behind another. -/
theorem Pst.trans {B a b c : Nat} {W1 W2 W : List Nat} {m m1 m2 : LM} {K : Nat → Prop} {h h1 h2 : HF} {w w1 w2 : World}
    (x : Pst B a b W1 m K h w m1 h1 w1) (y : Pst B b c W2 m1 (Kx K a b) h1 w1 m2 h2 w2) (hW : ∀ id, id < a → id ∉ W → id ∉ W1 ∧ id ∉ W2) : Pst B a c W m K h w m2 h2 w2 := by
  have hac := Nat.le_trans x.le y.le
  refine ⟨hac, fun id hk => by rw [y.same id (.inl hk), x.same id hk], y.hr.weak fun id hk => ?_, fun id hl hw => ?_, fun id hl => ?_, x.below.trans y.below⟩
  · have := x.le; have := y.le
    rcases hk with (hk | hk) | hk
    · exact .inl hk
    · exact .inr ⟨hk.1, by omega⟩
    · exact .inr ⟨by omega, hk.2⟩
  · obtain ⟨h1', h2'⟩ := hW id hl hw
    rw [y.old id (Nat.lt_of_lt_of_le hl x.le) h2', x.old id hl h1']
  · rw [y.more id hl, x.more id (Nat.le_trans y.le hl)]

section
variable {B : Nat} {m : LM} {K : Nat → Prop} {h : HF} {w : World}

/-! ### Reading -/
theorem HR.read (x : HR B m K h w) {id off n : Nat} {c l : List AV} (hc : h id = some c) (hl : cellsAt c off n = some l) :
    ∃ us : List Value, us.length = n ∧ VRL m K us l ∧ (∀ u ∈ us, u.oneCell' = true) ∧ ∀ (j : Nat) (u : Value), us[j]? = some u → w.cell? ((⟨(m id).blk, (m id).base + off, none⟩ : Addr).add j) = some u := by
  obtain ⟨h1, h2⟩ := cellsAt_spec hl
  have o := x.obj id c hc
  have key : ∀ i, i < n → ∃ u v, l[i]? = some v ∧ w.cell? ⟨(m id).blk, (m id).base + off + i, none⟩ = some u ∧ VR m K u v ∧ one? v = true := by
    intro i hi
    obtain ⟨v, hv⟩ : ∃ v, l[i]? = some v := ⟨l[i]'(by omega), List.getElem?_eq_getElem (by omega)⟩
    obtain ⟨u, g1, g2, g3⟩ := o.cell (off + i) v (by rw [h2 i hi, hv])
    exact ⟨u, v, hv, by rw [Nat.add_assoc]; exact g1, g2, g3⟩
  let f : Nat → Value := fun i => (w.cell? ⟨(m id).blk, (m id).base + off + i, none⟩).getD (.bool false)
  refine ⟨(List.range n).map f, by simp, VRL.of_get (by simp [h1]) fun i a ha => ?_, fun u hu => ?_, fun j u hj => ?_⟩
  · have hi : i < n := by have := (List.getElem?_eq_some_iff.1 ha).1; omega
    obtain ⟨u, v, g0, g1, g2, g3⟩ := key i hi
    rw [ha] at g0
    cases g0
    exact ⟨u, by simp [hi, f, g1], g2⟩
  · obtain ⟨i, hi, rfl⟩ := List.mem_map.1 hu
    obtain ⟨u, v, g0, g1, g2, g3⟩ := key i (List.mem_range.1 hi)
    simp only [f, g1, Option.getD_some]
    exact g2.oneCell g3
  · have hj' : j < n := by have := (List.getElem?_eq_some_iff.1 hj).1; simpa using this
    obtain ⟨u', v, g0, g1, g2, g3⟩ := key j hj'
    simp [hj', f, g1] at hj
    subst hj
    rw [show (⟨(m id).blk, (m id).base + off, none⟩ : Addr).add j = ⟨(m id).blk, (m id).base + off + j, none⟩ by unfold Addr.add; split <;> simp_all]
    exact g1

/-! ### Making -/
def updF {α : Type} (f : Nat → α) (k : Nat) (a : α) : Nat → α := fun i => if i = k then a else f i
theorem updF_same {α : Type} (f : Nat → α) (k : Nat) (a : α) : updF f k a k = a := by simp [updF]
theorem updF_ne {α : Type} (f : Nat → α) {k i : Nat} (a : α) (hne : i ≠ k) : updF f k a i = f i := by simp [updF, hne]

/-- A world that keeps what is there (and may have more). -/
structure Keeps (w w' : World) : Prop where
  size : w.heap.size ≤ w'.heap.size
  cell : ∀ a : Addr, a.block < w.heap.size → w'.cell? a = w.cell? a
  froz : ∀ a : Addr, a.block < w.heap.size → w'.frozen? a = w.frozen? a
theorem HR.keeps {w' : World} (x : HR B m K h w) (k : Keeps w w') : HR B m K h w' :=
  ⟨Nat.le_trans x.big k.size, x.known, fun id c hc =>
    let o := x.obj id c hc
    ⟨o.low, Nat.lt_of_lt_of_le o.lt k.size, fun i hi => by rw [k.cell _ o.lt]; exact o.there i hi, fun i h1 h2 => by rw [k.froz _ o.lt]; exact o.froz i h1 h2, o.fits,
      fun i v hv => let ⟨u, h1, h2, h3⟩ := o.cell i v hv; ⟨u, by rw [k.cell _ o.lt]; exact h1, h2, h3⟩⟩, x.inj⟩
theorem Keeps.alloc (w : World) (o : Obj) : Keeps w (w.alloc o) := ⟨by simp, fun a ha => World.cell?_alloc_lt _ _ _ ha, fun a ha => World.frozen?_alloc_old _ _ _ (by omega)⟩
theorem Keeps.drew (w : World) : Keeps w w.drew := ⟨by simp, fun _ _ => rfl, fun _ _ => rfl⟩
theorem Keeps.trans {a b c : World} (x : Keeps a b) (y : Keeps b c) : Keeps a c :=
  ⟨Nat.le_trans x.size y.size, fun p hp => by rw [y.cell p (Nat.lt_of_lt_of_le hp x.size), x.cell p hp], fun p hp => by rw [y.froz p (Nat.lt_of_lt_of_le hp x.size), x.froz p hp]⟩

/-- A new object, in a new block (its first cells). -/
theorem HR.make {w' : World} (x : HR B m K h w) (k : Keeps w w') {id : Nat} (hid : ¬ K id) {blk tot : Nat} {c : List AV} {us : List Value}
    (hblk : w.heap.size ≤ blk) (hlt : blk < w'.heap.size) (hthere : ∀ o, o < tot → (w'.cell? ⟨blk, o, none⟩).isSome = true) (hfroz : ∀ o, o < tot → w'.frozen? ⟨blk, o, none⟩ = false)
    (hfit : c.length ≤ tot) (hc : VRL m K us c) (hone : allOne c = true) (hcell : ∀ (j : Nat) (u : Value), us[j]? = some u → w'.cell? ⟨blk, j, none⟩ = some u) :
    HR B (updF m id ⟨blk, 0, tot⟩) (fun i => K i ∨ i = id) (updF h id (some c)) w' := by
  have hm : ∀ i, K i → updF m id ⟨blk, 0, tot⟩ i = m i := fun i hi => updF_ne _ _ (fun e => hid (e ▸ hi))
  have x' := x.keeps k
  refine ⟨Nat.le_trans x.big k.size, fun i d hd => ?_, fun i d hd => ?_, fun i j d e hi hj hne => ?_⟩
  · by_cases e : i = id
    · exact .inr e
    · rw [updF_ne _ _ e] at hd; exact .inl (x.known i d hd)
  · by_cases e : i = id
    · subst e
      rw [updF_same] at hd
      cases hd
      refine ⟨?_, ?_, ?_, ?_, ?_, ?_⟩
      · rw [updF_same]; exact Nat.le_trans x.big hblk
      · rw [updF_same]; exact hlt
      · rw [updF_same]; exact hthere
      · rw [updF_same]; exact fun o _ ho => hfroz o ho
      · rw [updF_same]; simpa using hfit
      · rw [updF_same]
        intro j v hv
        obtain ⟨u, h1, h2⟩ := hc.get j v hv
        exact ⟨u, by simpa using hcell j u h1, h2.mono (fun _ hk => .inl hk) hm, allOne_spec hone v (List.mem_of_getElem? hv)⟩
    · rw [updF_ne _ _ e] at hd
      have o := x'.obj i d hd
      have hmi := hm i (x.known i d hd)
      exact ⟨by rw [hmi]; exact o.low, by rw [hmi]; exact o.lt, by rw [hmi]; exact o.there, by rw [hmi]; exact o.froz, by rw [hmi]; exact o.fits, by
        rw [hmi]
        intro j v hv
        obtain ⟨u, h1, h2, h3⟩ := o.cell j v hv
        exact ⟨u, h1, h2.mono (fun _ hk => .inl hk) hm, h3⟩⟩
  · by_cases e1 : i = id
    · subst e1
      have e2 : j ≠ i := fun e => hne e.symm
      rw [updF_ne _ _ e2] at hj
      rw [updF_same, updF_ne _ _ e2]
      have := (x.obj j e hj).lt
      simp; omega
    · rw [updF_ne _ _ e1] at hi
      by_cases e2 : j = id
      · subst e2
        rw [updF_same, updF_ne _ _ e1]
        have := (x.obj i d hi).lt
        simp; omega
      · rw [updF_ne _ _ e2] at hj
        rw [updF_ne _ _ e1, updF_ne _ _ e2]
        exact x.inj i j d e hi hj hne

/-- The same, as a step from one number to the next. -/
theorem HR.makeP {w' : World} (x : HR B m K h w) (k : Keeps w w') (hb : Below B w w') {id : Nat} (hid : ¬ K id) {blk tot : Nat} {c : List AV} {us : List Value}
    (hblk : w.heap.size ≤ blk) (hlt : blk < w'.heap.size) (hthere : ∀ o, o < tot → (w'.cell? ⟨blk, o, none⟩).isSome = true) (hfroz : ∀ o, o < tot → w'.frozen? ⟨blk, o, none⟩ = false)
    (hfit : c.length ≤ tot) (hc : VRL m K us c) (hone : allOne c = true) (hcell : ∀ (j : Nat) (u : Value), us[j]? = some u → w'.cell? ⟨blk, j, none⟩ = some u) :
    Pst B id (Nat.succ id) [] m K h w (updF m id ⟨blk, 0, tot⟩) (updF h id (some c)) w' :=
  ⟨Nat.le_succ _, fun i hi => updF_ne _ _ (fun e => hid (e ▸ hi)), (x.make k hid hblk hlt hthere hfroz hfit hc hone hcell).weak (fun i hi => hi.elim .inl fun e => .inr (by omega)),
    fun i hi _ => updF_ne _ _ (by omega), fun i hi => updF_ne _ _ (by omega), hb⟩

/-! ### Writing -/
theorem below_setCells (b o : Nat) (vs : List Value) (hb : B ≤ b) : ∀ w : World, Below B w (w.setCells b o vs) := by
  induction vs generalizing o with
  | nil => intro w; exact Below.refl _ _
  | cons v r ih => intro w; exact ((Below.refl B w).setCell (p := ⟨b, o, none⟩) hb v).trans (ih (o + 1) _)
theorem size_setCells (b : Nat) : ∀ (vs : List Value) (o : Nat) (w : World), (w.setCells b o vs).heap.size = w.heap.size
  | [], _, _ => rfl
  | v :: r, o, w => by
    show ((w.setCell ⟨b, o, none⟩ v).setCells b (o + 1) r).heap.size = _
    rw [size_setCells b r (o + 1), World.size_setCell]

/-- Cells of an object are written; 'f': what all objects hold then. -/
theorem HR.write (x : HR B m K h w) {id off : Nat} {c c' vs : List AV} {us : List Value} (hc : h id = some c) (hs : setC c vs off = some c') (hv : VRL m K us vs) (hone : allOne vs = true) :
    HR B m K (updF h id (some c')) (w.setCells (m id).blk ((m id).base + off) us) := by
  obtain ⟨h1, h2, h3⟩ := setC_spec c vs off hs
  have o := x.obj id c hc
  have hul := hv.length
  have hin : ∀ j, j < us.length → (w.cell? ⟨(m id).blk, (m id).base + off + j, none⟩).isSome = true := fun j hj => o.there _ (by have := o.fits; omega)
  have hsome : ∀ a : Addr, (w.cell? a).isSome = true → ((w.setCells (m id).blk ((m id).base + off) us).cell? a).isSome = true := fun a ha => by
    by_cases e : a.block = (m id).blk ∧ a.spot = none ∧ (m id).base + off ≤ a.off ∧ a.off < (m id).base + off + us.length
    · obtain ⟨e1, e2, e3, e4⟩ := e
      have := World.cell?_setCells_in (m id).blk us ((m id).base + off) w hin (a.off - ((m id).base + off)) (by omega)
      have ea : a = ⟨(m id).blk, (m id).base + off + (a.off - ((m id).base + off)), none⟩ := by
        cases a; simp at e1 e2 e3 e4 ⊢; exact ⟨e1, by omega, e2⟩
      rw [ea, this]; rfl
    · rw [World.cell?_setCells_out _ _ _ _ _ (fun g1 g2 => by
        rcases Nat.lt_or_ge a.off ((m id).base + off) with g | g
        · exact .inl g
        · exact .inr (by
            rcases Nat.lt_or_ge a.off ((m id).base + off + us.length) with g' | g'
            · exact absurd ⟨g1, g2, g, g'⟩ e
            · exact g'))]
      exact ha
  refine ⟨by rw [size_setCells]; exact x.big, fun i d hd => ?_, fun i d hd => ?_, fun i j d e hi hj hne => ?_⟩
  · by_cases e : i = id
    · subst e; exact x.known i c hc
    · rw [updF_ne _ _ e] at hd; exact x.known i d hd
  · by_cases e : i = id
    · subst e
      rw [updF_same] at hd
      cases hd
      refine ⟨o.low, by rw [size_setCells]; exact o.lt, fun k hk => hsome _ (o.there k hk), fun k g1 g2 => by rw [World.frozen?_setCells]; exact o.froz k g1 g2, by rw [h2]; exact o.fits, fun k v hv' => ?_⟩
      rw [h3 k] at hv'
      by_cases g : off ≤ k ∧ k < off + vs.length
      · rw [if_pos g] at hv'
        obtain ⟨u, g1, g2⟩ := hv.get _ v hv'
        have hk : k - off < us.length := by omega
        have := World.cell?_setCells_in (m i).blk us ((m i).base + off) w hin (k - off) hk
        refine ⟨u, ?_, g2, allOne_spec hone v (List.mem_of_getElem? hv')⟩
        rw [show (m i).base + k = (m i).base + off + (k - off) by omega, this]
        rw [List.getElem?_eq_getElem hk] at g1
        exact g1
      · rw [if_neg g] at hv'
        obtain ⟨u, g1, g2, g3⟩ := o.cell k v hv'
        refine ⟨u, ?_, g2, g3⟩
        rw [World.cell?_setCells_out _ _ _ _ _ (fun _ _ => by simp; omega)]
        exact g1
    · rw [updF_ne _ _ e] at hd
      have p := x.obj i d hd
      have hne := x.inj i id d c hd hc e
      refine ⟨p.low, by rw [size_setCells]; exact p.lt, fun k hk => hsome _ (p.there k hk), fun k g1 g2 => by rw [World.frozen?_setCells]; exact p.froz k g1 g2, p.fits, fun k v hv' => ?_⟩
      obtain ⟨u, g1, g2, g3⟩ := p.cell k v hv'
      exact ⟨u, by rw [World.cell?_setCells_out _ _ _ _ _ (fun g _ => absurd g hne)]; exact g1, g2, g3⟩
  · have hi' : ∃ d', h i = some d' := by
      by_cases g : i = id
      · subst g; exact ⟨c, hc⟩
      · rw [updF_ne _ _ g] at hi; exact ⟨d, hi⟩
    have hj' : ∃ d', h j = some d' := by
      by_cases g : j = id
      · subst g; exact ⟨c, hc⟩
      · rw [updF_ne _ _ g] at hj; exact ⟨e, hj⟩
    obtain ⟨_, g1⟩ := hi'
    obtain ⟨_, g2⟩ := hj'
    exact x.inj i j _ _ g1 g2 hne
theorem HR.writeP (x : HR B m K h w) {a id off : Nat} {c c' vs : List AV} {us : List Value} (hc : h id = some c) (hid : id < a) (hs : setC c vs off = some c') (hv : VRL m K us vs) (hone : allOne vs = true) :
    Pst B a a [id] m K h w m (updF h id (some c')) (w.setCells (m id).blk ((m id).base + off) us) :=
  ⟨Nat.le_refl _, fun _ _ => rfl, (x.write hc hs hv hone).weak Kx.le, fun i _ hi => updF_ne _ _ (fun e => hi (by simp [e])), fun i hi => updF_ne _ _ (by omega), below_setCells _ _ _ (x.obj id c hc).low w⟩
/-- What is asked of the cells that are written. -/
theorem HR.room (x : HR B m K h w) {id off : Nat} {c c' vs : List AV} {us : List Value} (hc : h id = some c) (hs : setC c vs off = some c') (hv : VRL m K us vs) :
    (∀ j, j < us.length → (w.cell? ⟨(m id).blk, (m id).base + off + j, none⟩).isSome = true) ∧ (∀ j, j < us.length → w.frozen? ⟨(m id).blk, (m id).base + off + j, none⟩ = false) := by
  obtain ⟨h1, h2, h3⟩ := setC_spec c vs off hs
  have o := x.obj id c hc
  have := hv.length
  have := o.fits
  exact ⟨fun j hj => o.there _ (by omega), fun j hj => o.froz _ (by omega) (by omega)⟩

/-! ### Growing in its place: an object goes, another one lies there. -/
theorem HR.regrow (x : HR B m K h w) {id id' off n : Nat} {c old vs : List AV} {us : List Value} (hc : h id = some c) (hid' : ¬ K id') (ho : cellsAt c off n = some old) (hv : VRL m K us vs) (hone : allOne vs = true)
    (hroom : (m id).base + off + n + vs.length ≤ (m id).tot) :
    HR B (updF m id' ⟨(m id).blk, (m id).base + off, (m id).tot⟩) (fun i => K i ∨ i = id') (updF (updF h id none) id' (some (old ++ vs))) (w.setCells (m id).blk ((m id).base + off + n) us) := by
  obtain ⟨h1, h2⟩ := cellsAt_spec ho
  have o := x.obj id c hc
  have hul := hv.length
  have hne' : id' ≠ id := fun e => hid' (e ▸ x.known id c hc)
  have hm : ∀ i, K i → updF m id' ⟨(m id).blk, (m id).base + off, (m id).tot⟩ i = m i := fun i hi => updF_ne _ _ (fun e => hid' (e ▸ hi))
  have hin : ∀ j, j < us.length → (w.cell? ⟨(m id).blk, (m id).base + off + n + j, none⟩).isSome = true := fun j hj => o.there _ (by omega)
  have hsome : ∀ a : Addr, (w.cell? a).isSome = true → ((w.setCells (m id).blk ((m id).base + off + n) us).cell? a).isSome = true := fun a ha => by
    by_cases e : a.block = (m id).blk ∧ a.spot = none ∧ (m id).base + off + n ≤ a.off ∧ a.off < (m id).base + off + n + us.length
    · obtain ⟨e1, e2, e3, e4⟩ := e
      have := World.cell?_setCells_in (m id).blk us ((m id).base + off + n) w hin (a.off - ((m id).base + off + n)) (by omega)
      have ea : a = ⟨(m id).blk, (m id).base + off + n + (a.off - ((m id).base + off + n)), none⟩ := by
        cases a; simp at e1 e2 e3 e4 ⊢; exact ⟨e1, by omega, e2⟩
      rw [ea, this]; rfl
    · rw [World.cell?_setCells_out _ _ _ _ _ (fun g1 g2 => by
        rcases Nat.lt_or_ge a.off ((m id).base + off + n) with g | g
        · exact .inl g
        · exact .inr (by
            rcases Nat.lt_or_ge a.off ((m id).base + off + n + us.length) with g' | g'
            · exact absurd ⟨g1, g2, g, g'⟩ e
            · exact g'))]
      exact ha
  have live : ∀ i d, i ≠ id' → updF (updF h id none) id' (some (old ++ vs)) i = some d → i ≠ id ∧ h i = some d := fun i d e hd => by
    rw [updF_ne _ _ e] at hd
    by_cases g : i = id
    · subst g; rw [updF_same] at hd; cases hd
    · rw [updF_ne _ _ g] at hd; exact ⟨g, hd⟩
  refine ⟨by rw [size_setCells]; exact x.big, fun i d hd => ?_, fun i d hd => ?_, fun i j d e hi hj hne => ?_⟩
  · by_cases e : i = id'
    · exact .inr e
    · exact .inl (x.known i d (live i d e hd).2)
  · by_cases e : i = id'
    · subst e
      rw [updF_same] at hd
      cases hd
      refine ⟨?_, ?_, ?_, ?_, ?_, ?_⟩ <;> rw [updF_same]
      · exact o.low
      · rw [size_setCells]; exact o.lt
      · exact fun k hk => hsome _ (o.there k hk)
      · exact fun k g1 g2 => by rw [World.frozen?_setCells]; exact o.froz k (by have g1' : (m id).base + off ≤ k := g1; omega) g2
      · show (m id).base + off + (old ++ vs).length ≤ (m id).tot
        rw [List.length_append]; omega
      · intro k v hv'
        by_cases g : k < n
        · rw [List.getElem?_append_left (by omega)] at hv'
          obtain ⟨u, g1, g2, g3⟩ := o.cell (off + k) v (by rw [h2 k g, hv'])
          refine ⟨u, ?_, g2.mono (fun _ hk => .inl hk) hm, g3⟩
          rw [World.cell?_setCells_out _ _ _ _ _ (fun _ _ => by simp; omega)]
          rw [← Nat.add_assoc] at g1; exact g1
        · rw [List.getElem?_append_right (by omega)] at hv'
          obtain ⟨u, g1, g2⟩ := hv.get _ v hv'
          have hk : k - n < us.length := by
            have := (List.getElem?_eq_some_iff.1 hv').1; omega
          have := World.cell?_setCells_in (m id).blk us ((m id).base + off + n) w hin (k - n) hk
          refine ⟨u, ?_, g2.mono (fun _ hk => .inl hk) hm, allOne_spec hone v (List.mem_of_getElem? hv')⟩
          rw [h1] at g1
          rw [show (m id).base + off + k = (m id).base + off + n + (k - n) by omega, this]
          rw [List.getElem?_eq_getElem hk] at g1
          exact g1
    · obtain ⟨e2, hd'⟩ := live i d e hd
      have p := x.obj i d hd'
      have hne := x.inj i id d c hd' hc e2
      have hmi := hm i (x.known i d hd')
      refine ⟨?_, ?_, ?_, ?_, ?_, ?_⟩ <;> rw [hmi]
      · exact p.low
      · rw [size_setCells]; exact p.lt
      · exact fun k hk => hsome _ (p.there k hk)
      · exact fun k g1 g2 => by rw [World.frozen?_setCells]; exact p.froz k g1 g2
      · exact p.fits
      · intro k v hv'
        obtain ⟨u, g1, g2, g3⟩ := p.cell k v hv'
        exact ⟨u, by rw [World.cell?_setCells_out _ _ _ _ _ (fun g _ => absurd g hne)]; exact g1, g2.mono (fun _ hk => .inl hk) hm, g3⟩
  · by_cases e1 : i = id'
    · subst e1
      have e2 : j ≠ i := fun g => hne g.symm
      obtain ⟨e3, hj'⟩ := live j e e2 hj
      rw [updF_same, updF_ne _ _ e2]
      exact fun g => x.inj j id e c hj' hc e3 g.symm
    · obtain ⟨e3, hi'⟩ := live i d e1 hi
      by_cases e2 : j = id'
      · subst e2
        rw [updF_same, updF_ne _ _ e1]
        exact x.inj i id d c hi' hc e3
      · obtain ⟨e4, hj'⟩ := live j e e2 hj
        rw [updF_ne _ _ e1, updF_ne _ _ e2]
        exact x.inj i j d e hi' hj' hne
end
end Go.Pal
