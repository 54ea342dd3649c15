/-
  A region whose order is open: one operation run, at whatever moment.
-/
import Derived.Test.YtmomgakmgafdeaaGreatDoorPalDrw4
namespace Go.Pal
open Go.RowKit

section
variable {P : Program} {T : TT} {ps : PS} {ops : Array Oper} {call : Nat → List AV → St → RF} {base : Nat} {fr : Tr} {an l : List Nat} {d : Nat → DSt} {W : Nat → List Nat} {hs : Nat → Hist}
  {B : Nat} {m0 : LM} {K0 : Nat → Prop} {h0 : HF} {w0 : World} {a0 : Act}

theorem KS_up (hc : CallOk P call) (hx : Facts T ps ops call base fr an l d W hs) {kk : Nat} {S : Nat → Bool} (hk : kk < l.length) {id : Nat} (h : KS base l d K0 kk S id) : KS base l d K0 (kk + 1) S id := by
  have hle := hx.mono hc (show kk ≤ kk + 1 by omega) (by omega)
  have hb := (hx.ok kk (by omega)).2
  rcases h with h | ⟨k, j, h1, h2, h3, h4, h5⟩
  · rcases h with h | h
    · exact .inl (.inl h)
    · exact .inl (.inr ⟨h.1, by omega⟩)
  · by_cases e : k = kk
    · subst e
      exact .inl (.inr ⟨by omega, h5⟩)
    · exact .inr ⟨k, j, by omega, h2, h3, h4, h5⟩

theorem KS0 (hc : CallOk P call) (hx : Facts T ps ops call base fr an l d W hs) {kk : Nat} (hk : kk ≤ l.length) (S : Nat → Bool) {id : Nat} (h : Kx K0 base (d 0).s.nxt id) : KS base l d K0 kk S id := by
  have := hx.mono hc (Nat.zero_le kk) hk
  rcases h with h | h
  · exact .inl (.inl h)
  · exact .inl (.inr ⟨h.1, by omega⟩)

/-- What has been run ahead of its time is run now. -/
theorem DInv.adv (hc : CallOk P call) (hx : Facts T ps ops call base fr an l d W hs) {kk : Nat} {S : Nat → Bool} {a : Act} {m : LM} {h : HF} {w : World} (x : DInv ops base fr l d B m0 K0 h0 w0 a0 kk S a m h w) {j : Nat} (hj : l[kk]? = some j) (hS : S j = true) : DInv ops base fr l d B m0 K0 h0 w0 a0 (kk + 1) S a m h w := by
  have hk := (List.getElem?_eq_some_iff.1 hj).1
  obtain ⟨j', o, hj', ho, hst⟩ := hx.at hk
  rw [hj] at hj'; cases hj'
  obtain ⟨ok1, hb⟩ := hx.ok kk (by omega)
  obtain ⟨hW, hcase⟩ := stp_pure hst (x.post kk j o (Nat.le_refl _) hj ho hS)
  have hfr := (stp_st hc hst ok1 hb).2
  have hwd : (d (kk + 1)).s.wd = (d kk).s.wd := by rcases hcase with h | ⟨_, h⟩ <;> rw [h]
  refine ⟨by omega, fun k i h1 h2 => ?_, fun k i o' h1 h2 h3 h4 => x.post k i o' (by omega) h2 h3 h4, x.closed, x.hr.weak fun id h => KS_up hc hx hk h, fun id c hg => ?_, fun k i h1 h2 h3 => x.early k i (by omega) h2 h3, x.same, fun id h1 h2 => x.old id h1 (by rw [← hwd]; exact h2), x.more, x.below, x.tmp.mono (fun id h => KS_up hc hx hk h) (fun _ _ => rfl)⟩
  · by_cases e : k = kk
    · subst e; rw [hj] at h2; cases h2; exact hS
    · exact x.pre k i (by omega) h2
  · rcases Nat.lt_or_ge id (d kk).s.nxt with g | g
    · exact x.sub id c (hfr id c g (by rw [hW]; simp) hg)
    · exact x.early kk j (Nat.le_refl _) hj hS id c g hg
theorem DInv.advs (hc : CallOk P call) (hx : Facts T ps ops call base fr an l d W hs) {S : Nat → Bool} {a : Act} {m : LM} {h : HF} {w : World} : ∀ (n kk : Nat), kk + n ≤ l.length → DInv ops base fr l d B m0 K0 h0 w0 a0 kk S a m h w → (∀ k j, kk ≤ k → k < kk + n → l[k]? = some j → S j = true) → DInv ops base fr l d B m0 K0 h0 w0 a0 (kk + n) S a m h w
  | 0, kk, _, x, _ => x
  | n + 1, kk, hn, x, hS => by
    have hj : l[kk]? = some l[kk] := List.getElem?_eq_getElem (by omega)
    have := DInv.advs hc hx n (kk + 1) (by omega) (x.adv hc hx hj (hS kk _ (Nat.le_refl _) (by omega) hj)) (fun k j h1 h2 h3 => hS k j (by omega) (by omega) h3)
    rwa [show kk + 1 + n = kk + (n + 1) by omega] at this

/-- Nothing of these numbers is known yet. -/
theorem KS_new (hc : CallOk P call) (hx : Facts T ps ops call base fr an l d W hs) (hfr : Fr K0 base (d l.length).s.nxt) {kk : Nat} {S : Nat → Bool} {k i : Nat} (hkk : kk ≤ k) (hk : l[k]? = some i) (hS : S i = false) {id : Nat} (h1 : (d k).s.nxt ≤ id) (h2 : id < (d (k + 1)).s.nxt) : ¬ KS base l d K0 kk S id := by
  have hkl := (List.getElem?_eq_some_iff.1 hk).1
  have hb := (hx.ok k (by omega)).2
  have m1 := hx.mono hc hkk (by omega)
  have m2 := hx.mono hc (show k + 1 ≤ l.length by omega) (Nat.le_refl _)
  rintro ((h | h) | ⟨k2, j, g1, g2, g3, g4, g5⟩)
  · exact hfr id (by omega) (by omega) h
  · omega
  · have hk2 := (List.getElem?_eq_some_iff.1 g2).1
    rcases Nat.lt_trichotomy k2 k with e | e | e
    · have := hx.mono hc (show k2 + 1 ≤ k by omega) (by omega)
      omega
    · subst e
      rw [hk] at g2; cases g2
      rw [hS] at g3; cases g3
    · have := hx.mono hc (show k + 1 ≤ k2 by omega) (by omega)
      omega

/-- An object that nobody wrote in between. -/
theorem back (hc : CallOk P call) (hx : Facts T ps ops call base fr an l d W hs) {id : Nat} {c : List AV} : ∀ n k1, k1 + n ≤ l.length → (∀ k3, k1 ≤ k3 → k3 < k1 + n → id ∉ W k3) → id < (d k1).s.nxt → get (d (k1 + n)).s.heap id = some c → get (d k1).s.heap id = some c
  | 0, _, _, _, _, h => h
  | n + 1, k1, hk, hw, hl, h => by
    obtain ⟨j, o, _, _, hst⟩ := hx.at (k := k1 + n) (by omega)
    have q := hx.ok (k1 + n) (by omega)
    have := (stp_st hc hst q.1 q.2).2 id c (Nat.lt_of_lt_of_le hl (hx.mono hc (by omega) (by omega))) (hw (k1 + n) (by omega) (by omega)) h
    exact back hc hx n k1 (by omega) (fun k3 h1 h2 => hw k3 h1 (by omega)) hl this

/-- What is read is as the way says. -/
theorem DInv.reads (hc : CallOk P call) (hx : Facts T ps ops call base fr (ancs ops.toList) l d W hs) (hfr : Fr K0 base (d l.length).s.nxt) {kk : Nat} {S : Nat → Bool} {a : Act} {m : LM} {h : HF} {w : World} (x : DInv ops base fr l d B m0 K0 h0 w0 a0 kk S a m h w) {k i : Nat} (hkk : kk ≤ k) (hk : l[k]? = some i)
    (hrdy : Direct ops i (fun j => S j = true)) {rs : List Nat} (hh : histOk (ancs ops.toList) i (hs k) rs) {id : Nat} (hid : id ∈ rs) (hK : KS base l d K0 kk S id) {c : List AV} (hg : get (d k).s.heap id = some c) : h id = some c := by
  have hkl := (List.getElem?_eq_some_iff.1 hk).1
  have ok := (hx.ok k (by omega)).1
  have hlt := ok.getLt hg
  have m1 := hx.mono hc (show k ≤ l.length by omega) (Nat.le_refl _)
  have nw : ∀ k3, kk ≤ k3 → k3 < k → id ∉ W k3 := by
    intro k3 h1 h2 hw
    obtain ⟨j3, o3, hj3, ho3, hst3⟩ := hx.at (k := k3) (by omega)
    cases he : isEff o3 with
    | false => rw [(stp_pure hst3 he).1] at hw; cases hw
    | true =>
      have hS3 : S j3 ≠ true := fun hS => by
        have := x.post k3 j3 o3 h1 hj3 ho3 hS
        rw [he] at this; cases this
      have hb : Nat.testBit ((ancs ops.toList).getD i 0) j3 = false := by
        cases hb : Nat.testBit ((ancs ops.toList).getD i 0) j3 with
        | false => rfl
        | true => exact absurd (ancs_good ops i j3 hb _ x.closed hrdy) hS3
      have hm := hx.hist hj3 ho3 he (k - (k3 + 1)) (by omega)
      rw [show k3 + 1 + (k - (k3 + 1)) = k by omega] at hm
      exact hh _ hm hb id hid hw
  have base' : id < (d kk).s.nxt → h id = some c := fun hl => by
    refine x.sub id c (back hc hx (k - kk) kk (by omega) (fun k3 h1 h2 => nw k3 h1 (by omega)) hl ?_)
    rw [show kk + (k - kk) = k by omega]; exact hg
  rcases hK with (hK | hK) | ⟨k2, j2, g1, g2, g3, g4, g5⟩
  · refine base' ?_
    rcases Nat.lt_or_ge id base with e | e
    · exact Nat.lt_of_lt_of_le e (hx.ok kk x.le).2
    · exact absurd hK (hfr id e (by omega))
  · exact base' hK.2
  · have hk2 := (List.getElem?_eq_some_iff.1 g2).1
    have hk2k : k2 < k := by
      rcases Nat.lt_or_ge k2 k with e | e
      · exact e
      · have := hx.mono hc e (by omega)
        omega
    refine x.early k2 j2 g1 g2 g3 id c g4 (back hc hx (k - (k2 + 1)) (k2 + 1) (by omega) (fun k3 h1 h2 => nw k3 (by omega) (by omega)) g5 ?_)
    rw [show k2 + 1 + (k - (k2 + 1)) = k by omega]; exact hg

/-- An operation that is no effect has been run. -/
theorem DInv.pure (hc : CallOk P call) (hx : Facts T ps ops call base fr an l d W hs) (hd0 : (d 0).v.l = []) {kk : Nat} {S : Nat → Bool} {a : Act} {m m' : LM} {h h' : HF} {w w' : World} (x : DInv ops base fr l d B m0 K0 h0 w0 a0 kk S a m h w) {k i : Nat} {o : Oper} (hkk : kk ≤ k) (hk : l[k]? = some i) (ho : ops[i]? = some o) (he : isEff o = false)
    (hrdy : Direct ops i (fun j => S j = true)) (hm : ∀ id, KS base l d K0 kk S id → m' id = m id) (hhr : HR B m' (KS base l d K0 kk (addS S i)) h' w') (hh : ∀ id, (id < (d k).s.nxt ∨ (d (k + 1)).s.nxt ≤ id) → h' id = h id) (hnew : ∀ id c, (d k).s.nxt ≤ id → get (d (k + 1)).s.heap id = some c → h' id = some c)
    (hbl : Below B w w') {u : Value} (hu : ∀ t e, o.dst = some t → look2 (d (k + 1)).v.l t = some e → VR m' (KS base l d K0 kk (addS S i)) u (rd (toX (d (k + 1)).v.cnt e) fr (d (k + 1)).L)) :
    DInv ops base fr l d B m0 K0 h0 w0 a0 kk (addS S i) (a.put o.dst u) m' h' w' := by
  have hkl := (List.getElem?_eq_some_iff.1 hk).1
  have hKS : ∀ id, KS base l d K0 kk S id → KS base l d K0 kk (addS S i) id := fun id hid => hid.imp (fun hh => hh) fun ⟨k, j, g1, g2, g3, g4⟩ => ⟨k, j, g1, g2, addS_old g3, g4⟩
  have hb := (hx.ok k (by omega)).2
  refine ⟨x.le, fun k' j h1 h2 => addS_old (x.pre k' j h1 h2), fun k' j o' h1 h2 h3 h4 => ?_, fun j o' hj ho' e he' hs' => ?_, hhr, fun id c hg => ?_, fun k' j h1 h2 h3 id c h4 h5 => ?_, fun id h1 => ?_, fun id h1 h2 => ?_, fun id h1 => ?_, x.below.trans hbl, (x.tmp.mono hKS hm).put hx hd0 hk ho hu⟩
  · rcases addS_cases h4 with h4 | rfl
    · exact x.post k' j o' h1 h2 h3 h4
    · rw [ho] at h3; cases h3; exact he
  · rcases addS_cases hj with hj | rfl
    · exact addS_old (x.closed j o' hj ho' e he' hs')
    · exact addS_old (hrdy o' ho' e he' hs')
  · rw [hh id (.inl (Nat.lt_of_lt_of_le ((hx.ok kk x.le).1.getLt hg) (hx.mono hc hkk (by omega))))]
    exact x.sub id c hg
  · have hk'l := (List.getElem?_eq_some_iff.1 h2).1
    rcases Nat.lt_trichotomy k' k with e | e | e
    · have hl := (hx.ok (k' + 1) (by omega)).1.getLt h5
      have := hx.mono hc (show k' + 1 ≤ k by omega) (by omega)
      rw [hh id (.inl (by omega))]
      have h3' : S j = true := by
        rcases addS_cases h3 with h | rfl
        · exact h
        · have := hx.inj h2 hk; omega
      exact x.early k' j h1 h2 h3' id c h4 h5
    · subst e; exact hnew id c h4 h5
    · have := hx.mono hc (show k + 1 ≤ k' by omega) (by omega)
      rw [hh id (.inr (by omega))]
      have h3' : S j = true := by
        rcases addS_cases h3 with h | rfl
        · exact h
        · have := hx.inj h2 hk; omega
      exact x.early k' j h1 h2 h3' id c h4 h5
  · rw [hm id (KS0 hc hx x.le S h1)]; exact x.same id h1
  · rw [hh id (.inl (by omega))]; exact x.old id h1 h2
  · have := hx.mono hc (show k + 1 ≤ l.length by omega) (Nat.le_refl _)
    rw [hh id (.inr (by omega))]; exact x.more id h1

/-- An effect has been run. -/
theorem DInv.effect (hc : CallOk P call) (hx : Facts T ps ops call base fr an l d W hs) (hd0 : (d 0).v.l = []) {S : Nat → Bool} {a : Act} {m m' : LM} {h h' : HF} {w w' : World} {k i : Nat} (x : DInv ops base fr l d B m0 K0 h0 w0 a0 k S a m h w) {o : Oper} (hk : l[k]? = some i) (ho : ops[i]? = some o) (hS : S i = false)
    (hrdy : Direct ops i (fun j => S j = true)) {W1 : List Nat} (hp : Pst B (d k).s.nxt (d (k + 1)).s.nxt W1 m (KS base l d K0 k S) h w m' h' w') (hs : Sub (d (k + 1)).s h') (hwd : (d (k + 1)).s.wd = addW base W1 (d k).s.wd)
    {u : Value} (hu : ∀ t e, o.dst = some t → look2 (d (k + 1)).v.l t = some e → VR m' (Kx (KS base l d K0 k S) (d k).s.nxt (d (k + 1)).s.nxt) u (rd (toX (d (k + 1)).v.cnt e) fr (d (k + 1)).L)) :
    DInv ops base fr l d B m0 K0 h0 w0 a0 (k + 1) (addS S i) (a.put o.dst u) m' h' w' := by
  have hkl := (List.getElem?_eq_some_iff.1 hk).1
  have hb := (hx.ok k (by omega)).2
  have hle := hx.mono hc (show k ≤ k + 1 by omega) (by omega)
  have hKS : ∀ id, Kx (KS base l d K0 k S) (d k).s.nxt (d (k + 1)).s.nxt id → KS base l d K0 (k + 1) (addS S i) id := by
    intro id hid
    rcases hid with ((hid | hid) | ⟨k2, j, g1, g2, g3, g4, g5⟩) | hid
    · exact .inl (.inl hid)
    · exact .inl (.inr ⟨hid.1, by omega⟩)
    · have hne : k2 ≠ k := fun e => by subst e; rw [hk] at g2; cases g2; rw [hS] at g3; cases g3
      exact .inr ⟨k2, j, by omega, g2, addS_old g3, g4, g5⟩
    · exact .inl (.inr ⟨by omega, hid.2⟩)
  have hother : ∀ k' j, k + 1 ≤ k' → l[k']? = some j → addS S i j = true → S j = true := fun k' j h1 h2 h3 => by
    rcases addS_cases h3 with h | rfl
    · exact h
    · have := hx.inj h2 hk; omega
  refine ⟨by omega, fun k' j h1 h2 => ?_, fun k' j o' h1 h2 h3 h4 => x.post k' j o' (by omega) h2 h3 (hother k' j h1 h2 h4), fun j o' hj ho' e he' hs' => ?_, hp.hr.weak hKS, hs, fun k' j h1 h2 h3 id c h4 h5 => ?_, fun id h1 => ?_, fun id h1 h2 => ?_, fun id h1 => ?_, x.below.trans hp.below, ?_⟩
  · by_cases e : k' = k
    · subst e; rw [hk] at h2; cases h2; exact addS_self S _
    · exact addS_old (x.pre k' j (by omega) h2)
  · rcases addS_cases hj with hj | rfl
    · exact addS_old (x.closed j o' hj ho' e he' hs')
    · exact addS_old (hrdy o' ho' e he' hs')
  · have hk'l := (List.getElem?_eq_some_iff.1 h2).1
    have := hx.mono hc h1 (by omega)
    rw [hp.more id (by omega)]
    exact x.early k' j (by omega) h2 (hother k' j h1 h2 h3) id c h4 h5
  · rw [hp.same id (KS0 hc hx x.le S h1)]; exact x.same id h1
  · rw [hwd, addW_spec] at h2
    rw [hp.old id (by omega) (fun h => h2 (.inl ⟨h, h1⟩))]
    exact x.old id h1 (fun h => h2 (.inr h))
  · have := hx.mono hc (show k + 1 ≤ l.length by omega) (Nat.le_refl _)
    rw [hp.more id (by omega)]; exact x.more id h1
  · exact (x.tmp.mono (fun id h => hKS id (.inl h)) hp.same).put hx hd0 hk ho fun t e h1 h2 => (hu t e h1 h2).mono hKS (fun _ _ => rfl)
end
end Go.Pal
