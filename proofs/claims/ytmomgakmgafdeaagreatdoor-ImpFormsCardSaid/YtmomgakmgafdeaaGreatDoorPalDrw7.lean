/-
  A region whose order is open: whatever the order.
-/
import Derived.Test.YtmomgakmgafdeaaGreatDoorPalDrw6
namespace Go.Pal
open Go.RowKit

theorem ancOne_direct (acc : List Nat) (o : Oper) {e : Edge} (he : e ∈ o.after.toList) (hs : sure e = true) : Nat.testBit (ancOne acc o) e.on = true := by
  unfold ancOne
  have key : ∀ (l : List Edge) (s : Nat), (Nat.testBit s e.on = true ∨ e ∈ l) → Nat.testBit (l.foldl (fun s e => bif sure e then s ||| 2 ^ e.on ||| acc.getD e.on 0 else s) s) e.on = true := by
    intro l
    induction l with
    | nil => intro s h; exact h.resolve_right (by simp)
    | cons e' l ih =>
      intro s h
      rw [List.foldl_cons]
      refine ih _ ?_
      rcases h with h | h
      · left
        cases sure e' with
        | false => exact h
        | true => simp only [cond_true, Nat.testBit_or, h, Bool.true_or]
      · rcases List.mem_cons.1 h with rfl | h
        · left
          rw [hs]
          simp only [cond_true, Nat.testBit_or, Nat.testBit_two_pow, decide_true, Bool.or_true, Bool.true_or]
        · exact .inr h
  exact key _ _ (.inr he)
theorem ancs_direct (ops : Array Oper) {j : Nat} {o : Oper} (ho : ops[j]? = some o) {e : Edge} (he : e ∈ o.after.toList) (hs : sure e = true) : Nat.testBit ((ancs ops.toList).getD j 0) e.on = true := by
  have key : ∀ (r : List Oper) (acc : List Nat), ∃ ext, r.foldl (fun acc o => acc ++ [ancOne acc o]) acc = acc ++ ext := by
    intro r
    induction r with
    | nil => intro acc; exact ⟨[], by simp⟩
    | cons o r ih =>
      intro acc
      obtain ⟨ext, h⟩ := ih (acc ++ [ancOne acc o])
      exact ⟨ancOne acc o :: ext, by rw [List.foldl_cons, h]; simp⟩
  have key2 : ∀ (r : List Oper) (acc : List Nat), ∀ n o, r[n]? = some o → ∃ acc', (r.foldl (fun acc o => acc ++ [ancOne acc o]) acc)[acc.length + n]? = some (ancOne acc' o) := by
    intro r
    induction r with
    | nil => intro acc n o h; simp at h
    | cons o' r ih =>
      intro acc n o h
      rw [List.foldl_cons]
      cases n with
      | zero =>
        simp at h
        subst h
        obtain ⟨ext, hx⟩ := key r (acc ++ [ancOne acc o'])
        refine ⟨acc, ?_⟩
        rw [hx]
        simp
      | succ n =>
        simp only [List.getElem?_cons_succ] at h
        obtain ⟨acc', h2⟩ := ih (acc ++ [ancOne acc o']) n o h
        refine ⟨acc', ?_⟩
        rw [← h2]
        congr 1
        simp
        omega
  obtain ⟨acc', h⟩ := key2 ops.toList [] j o (by simpa using ho)
  unfold ancs
  rw [List.getD_eq_getElem?_getD]
  simp only [List.length_nil, Nat.zero_add] at h
  rw [h]
  exact ancOne_direct acc' o he hs

section
variable {P : Program} {T : TT} {ps : PS} {ops : Array Oper} {call : Nat → List AV → St → RF} {base : Nat} {fr : Tr} {l : List Nat} {d : Nat → DSt} {W : Nat → List Nat} {hs : Nat → Hist}
  {B : Nat} {m0 : LM} {K0 : Nat → Prop} {h0 : HF} {w0 : World} {a0 : Act}

def lst (listed : Array Bool) : Nat → Bool := fun j => listed.getD j false

theorem ready_spec {listed : Array Bool} (hsz : listed.size = ops.size) {i : Nat} : i ∈ Region.ready .any ops listed ↔ i < ops.size ∧ lst listed i = false ∧ Direct ops i (fun j => lst listed j = true) := by
  unfold Region.ready lst
  rw [List.mem_filter, List.mem_range]
  constructor
  · rintro ⟨h1, h2⟩
    obtain ⟨h2, h3⟩ := and3 h2
    have hi : i < listed.size := by omega
    refine ⟨h1, ?_, fun o ho e he hs => ?_⟩
    · rw [Array.getD_eq_getD_getElem?, Array.getElem?_eq_getElem hi] at h2 ⊢
      simpa using h2
    · rw [ho] at h3
      simp only [Option.map_some, Option.getD_some, Array.all_eq_true'] at h3
      have := h3 e (Array.mem_toList_iff.1 he)
      rw [← sure_binds, hs] at this
      simpa using this
  · rintro ⟨h1, h2, h3⟩
    refine ⟨h1, ?_⟩
    have hi : i < listed.size := by omega
    obtain ⟨o, ho⟩ : ∃ o, ops[i]? = some o := ⟨ops[i], Array.getElem?_eq_getElem h1⟩
    rw [ho]
    have e1 : listed.getD i true = false := by
      rw [Array.getD_eq_getD_getElem?, Array.getElem?_eq_getElem hi] at h2 ⊢
      simpa using h2
    rw [e1]
    simp only [Bool.not_false, Option.map_some, Option.getD_some, Bool.true_and, Array.all_eq_true']
    intro e he
    rw [← sure_binds]
    cases hs : sure e with
    | false => rfl
    | true =>
      have := h3 o ho e (Array.mem_toList_iff.2 he) hs
      simpa using this
theorem lst_set {listed : Array Bool} {i : Nat} (hi : i < listed.size) : lst (listed.setIfInBounds i true) = addS (lst listed) i := by
  funext j
  unfold lst addS
  by_cases e : j = i
  · subst e
    simp [Array.getD_eq_getD_getElem?, hi]
  · have e' : i ≠ j := fun h => e h.symm
    simp [Array.getD_eq_getD_getElem?, Array.getElem?_setIfInBounds_ne e', e]

/-- Where nothing is ready, all has been run. -/
theorem all_run (hx : Facts T ps ops call base fr (ancs ops.toList) l d W hs) {listed : Array Bool} (hsz : listed.size = ops.size) (hr : Region.ready .any ops listed = []) : ∀ (k j : Nat), l[k]? = some j → lst listed j = true := by
  intro k
  induction k using Nat.strongRecOn with
  | ind k ih =>
    intro j hj
    cases hS : lst listed j with
    | true => rfl
    | false =>
      exfalso
      have hm : j ∈ Region.ready .any ops listed := by
        refine (ready_spec hsz).2 ⟨hx.ord.lt j (List.mem_of_getElem? hj), hS, fun o ho e he hs' => ?_⟩
        have := hx.ord.anc k j e.on hj (ancs_direct ops ho he hs')
        obtain ⟨n, hn1, hn2⟩ := List.mem_take_iff_getElem.1 this
        exact ih n (by omega) e.on (by rw [List.getElem?_eq_getElem (by omega), hn2])
      rw [hr] at hm
      cases hm

theorem any_sim (hT : ∀ t ti, T t = some ti → TIr P t ti) (hc : CallOk P call) (hx : Facts T ps ops call base fr (ancs ops.toList) l d W hs) (hd0 : (d 0).v.l = []) (ht0 : TmpR ps (d 0).v m0 (Kx K0 base (d 0).s.nxt) fr (d 0).L a0) (hfr : Fr K0 base (d l.length).s.nxt)
    {Q : Exit → Act → World → Prop} (hQ : ∀ S a m h w, DInv ops base fr l d B m0 K0 h0 w0 a0 l.length S a m h w → (∀ j, j < ops.size → S j = true) → Q .normal a w) :
    ∀ (fuel : Nat) (listed : Array Bool) (kk : Nat) (a : Act) (m : LM) (h : HF) (w : World), listed.size = ops.size → ((List.range ops.size).filter fun j => !lst listed j).length ≤ fuel → DInv ops base fr l d B m0 K0 h0 w0 a0 kk (lst listed) a m h w → wpAny P .any ops Q fuel listed a w := by
  have done : ∀ (listed : Array Bool) (kk : Nat) (a : Act) (m : LM) (h : HF) (w : World), listed.size = ops.size → Region.ready .any ops listed = [] → DInv ops base fr l d B m0 K0 h0 w0 a0 kk (lst listed) a m h w → Q .normal a w := by
    intro listed kk a m h w hsz hr x
    have hall := all_run hx hsz hr
    have := x.advs hc hx (l.length - kk) kk (by have := x.le; omega) (fun k j _ _ hj => hall k j hj)
    rw [show kk + (l.length - kk) = l.length by have := x.le; omega] at this
    refine hQ _ a m h w this fun j hj => ?_
    obtain ⟨n, hn1, hn2⟩ := List.mem_iff_getElem.1 (hx.ord.all j hj)
    exact hall n j (by rw [List.getElem?_eq_getElem hn1, hn2])
  intro fuel
  induction fuel with
  | zero =>
    intro listed kk a m h w hsz hf x
    have hr : Region.ready .any ops listed = [] := by
      apply List.eq_nil_iff_forall_not_mem.2
      intro i hi
      obtain ⟨h1, h2, _⟩ := (ready_spec hsz).1 hi
      have : i ∈ (List.range ops.size).filter fun j => !lst listed j := List.mem_filter.2 ⟨List.mem_range.2 h1, by rw [h2]; rfl⟩
      have := List.length_pos_of_mem this
      omega
    exact ⟨hr, done listed kk a m h w hsz hr x⟩
  | succ fuel ih =>
    intro listed kk a m h w hsz hf x
    refine ⟨fun hr => done listed kk a m h w hsz hr x, fun i hi => ?_⟩
    obtain ⟨h1, h2, h3⟩ := (ready_spec hsz).1 hi
    refine x.run hT hc hx hd0 ht0 hfr h1 h2 h3 fun kk' a' m' h' w' y => ?_
    refine ih (listed.setIfInBounds i true) kk' a' m' h' w' (by simp [hsz]) ?_ (by rw [lst_set (by omega)]; exact y)
    rw [lst_set (by omega)]
    have e1 : ((List.range ops.size).filter fun j => !addS (lst listed) i j) = ((List.range ops.size).filter fun j => !lst listed j).filter fun j => !(j == i) := by
      rw [List.filter_filter]
      congr 1
      funext j
      unfold addS
      cases lst listed j <;> cases (j == i) <;> rfl
    rw [e1]
    have hm : i ∈ (List.range ops.size).filter fun j => !lst listed j := List.mem_filter.2 ⟨List.mem_range.2 h1, by rw [h2]; rfl⟩
    have := List.length_filter_lt_length_iff_exists (l := (List.range ops.size).filter fun j => !lst listed j) (p := fun j => !(j == i)) |>.2 ⟨i, hm, by simp⟩
    omega
end

theorem drw_ok {P : Program} {T : TT} (hT : ∀ t ti, T t = some ti → TIr P t ti) (hm : P.follows .mixedOrders = true) : DrwOk P T := by
  intro call hc ps ops nt l q vf hg hq base fr s sf Lf hev ok hb
  obtain ⟨d, W, hs, hway, e0, eN, hs0⟩ := way_of l [] ⟨[], 0, nt⟩ q [] [] s [] hq hev .nil
  have hx := facts_of hc (goodOrder_spec hg) hway (by rw [e0]; exact ⟨ok, hb⟩) (by rw [e0])
  have hfra := hx.fra hc l.length 0 (by omega)
  rw [Nat.zero_add, e0, eN] at hfra
  have hnt := hx.nt l.length (Nat.le_refl _)
  rw [e0, eN] at hnt
  refine ⟨hfra, hnt, fun {B m0 K0 h0 w0} hfr Q id hQ a m h w ht hi => ?_⟩
  refine wp_region_any hm ?_
  have hd0 : (d 0).v.l = [] := by rw [e0]
  have ht0 : TmpR ps (d 0).v m (Kx K0 base (d 0).s.nxt) fr (d 0).L a := by rw [e0]; exact ht
  have hlst : lst (Array.replicate ops.size false) = fun _ => false := by
    funext j
    unfold lst
    rw [Array.getD_eq_getD_getElem?]
    by_cases e : j < ops.size
    · simp [e]
    · simp [e]
  have hi' : HR B m (Kx K0 base s.nxt) h { w with drawn := w.drawn + 1 } := hi.pst.hr.keeps (Keeps.drew w)
  refine any_sim (B := B) (m0 := m) (K0 := K0) (h0 := h0) (w0 := w0) (a0 := a) hT hc hx hd0 ht0 (by rw [eN]; exact hfr) ?_ ops.size _ 0 a m h _ (by simp) (Nat.le_trans (List.length_filter_le _ _) (by simp)) ?_
  · intro S a' m' h' w' x hall
    have hK : ∀ id, KS base l d K0 l.length S id → Kx K0 base sf.nxt id := by
      intro id hid
      rcases hid with hid | ⟨k, j, h1, h2, _⟩
      · rw [eN] at hid; exact hid
      · have := (List.getElem?_eq_some_iff.1 h2).1; omega
    have hsame := x.same
    rw [e0] at hsame
    refine hQ a' m' h' w' ⟨?_, ?_, ?_, x.tmp.noDefers⟩ ⟨hfra.ok, by have := x.sub; rw [eN] at this; exact this, ?_⟩
    · rw [hnt]; have := x.tmp.size; rw [e0] at this; exact this
    · have := hx.eok l.length (Nat.le_refl _); rw [eN] at this; exact this
    · intro t e he
      cases hl : look2 vf.l t with
      | some e' =>
        have : e = e' := by unfold cTmp at he; rw [hl] at he; exact (Option.some.inj he).symm
        subst this
        obtain ⟨k, j, o, g1, g2, g3, g4⟩ := hx.writer hd0 l.length (Nat.le_refl _) t e (by rw [eN]; exact hl)
        have := x.tmp.done j o t g3 g4 (hall j (hx.ord.lt j (List.mem_of_getElem? g2))) e (by rw [eN]; exact hl)
        rw [eN] at this
        exact this.mono hK (fun _ _ => rfl)
      | none =>
        have hun := x.tmp.todo t fun i o h1 h2 => by
          exfalso
          obtain ⟨n, hn1, hn2⟩ := List.mem_iff_getElem.1 (hx.ord.all i (Array.getElem?_eq_some_iff.1 h1).1)
          obtain ⟨e2, he2⟩ := hx.written hd0 (k := n) (by rw [List.getElem?_eq_getElem hn1, hn2]) h1 h2 (k' := l.length) hn1 (Nat.le_refl _)
          rw [eN, hl] at he2
          cases he2
        rw [hun]
        have he' : ∃ p, look2 ps t = some p ∧ e = .al (.t p) := by
          unfold cTmp at he
          rw [hl] at he
          simp only at he
          split at he
          · rename_i p hp; cases he; exact ⟨p, hp, rfl⟩
          · cases he
        obtain ⟨p, hp, rfl⟩ := he'
        have := ht.val t (.al (.t p)) (by unfold cTmp; show (match look2 ps t with | some p => some (E.al (.t p)) | none => none) = _; rw [hp])
        have hle : s.nxt ≤ sf.nxt := hfra.le
        have hb2 := hi.pst.le
        exact this.mono (fun id hid => hid.imp (fun h => h) fun h => ⟨h.1, Nat.lt_of_lt_of_le h.2 hle⟩) hsame
    · have hold := x.old
      have hmore := x.more
      rw [eN] at hold hmore
      have hle := hfra.le
      exact ⟨Nat.le_trans hb hle, fun id h => by rw [hsame id (.inl h)]; exact hi.pst.same id h, x.hr.weak hK, hold, hmore, x.below⟩
  · rw [hlst]
    refine ⟨Nat.zero_le _, (fun k j h => by omega), (fun k j o _ _ _ h => by cases h), (fun x o h => by cases h), ?_, ?_, (fun k j _ _ h => by cases h), (fun _ _ => rfl), ?_, ?_, ?_, ?_⟩
    · rw [show (Kx K0 base s.nxt) = (Kx K0 base (d 0).s.nxt) by rw [e0]] at hi'
      exact hi'.weak fun id h => .inl h
    · rw [e0]; exact hi.sub
    · rw [e0]; exact hi.pst.old
    · intro id h
      rw [eN] at h
      exact hi.pst.more id (Nat.le_trans hfra.le h)
    · exact hi.pst.below.drew
    · refine ⟨by rw [e0]; exact ht.size, ht.noDefers, (fun i o t _ _ h => by cases h), fun t _ => rfl⟩
end Go.Pal
