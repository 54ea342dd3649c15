/-
  A region whose order is open: the whole of it.
-/
import Derived.Test.YtmomgakmgafdeaaGreatDoorPalDrw5
namespace Go.Pal
open Go.RowKit

section
variable {P : Program} {T : TT} {ps : PS} {ops : Array Oper} {call : Nat → List AV → St → RF} {base : Nat} {fr : Tr} {l : List Nat} {d : Nat → DSt} {W : Nat → List Nat} {hs : Nat → Hist}
  {B : Nat} {m0 : LM} {K0 : Nat → Prop} {h0 : HF} {w0 : World} {a0 : Act}

theorem DInv.run (hT : ∀ t ti, T t = some ti → TIr P t ti) (hc : CallOk P call) (hx : Facts T ps ops call base fr (ancs ops.toList) l d W hs) (hd0 : (d 0).v.l = []) (ht0 : TmpR ps (d 0).v m0 (Kx K0 base (d 0).s.nxt) fr (d 0).L a0) (hfr : Fr K0 base (d l.length).s.nxt)
    {kk : Nat} {S : Nat → Bool} {a : Act} {m : LM} {h : HF} {w : World} (x : DInv ops base fr l d B m0 K0 h0 w0 a0 kk S a m h w) {i : Nat} (hi : i < ops.size) (hS : S i = false) (hrdy : Direct ops i (fun j => S j = true))
    {Q : Exit → Act → World → Prop} {R : Act → World → Prop} (hR : ∀ kk' a' m' h' w', DInv ops base fr l d B m0 K0 h0 w0 a0 kk' (addS S i) a' m' h' w' → R a' w') : wpOp P ops Q i R a w := by
  obtain ⟨k, hk⟩ : ∃ k : Nat, l[k]? = some i := by
    obtain ⟨n, hn1, hn2⟩ := List.mem_iff_getElem.1 (hx.ord.all i hi)
    exact ⟨n, by rw [List.getElem?_eq_getElem hn1, hn2]⟩
  have hkl := (List.getElem?_eq_some_iff.1 hk).1
  obtain ⟨j', o, hj', ho, hst⟩ := hx.at hkl
  rw [hk] at hj'; cases hj'
  have hkk : kk ≤ k := by
    rcases Nat.lt_or_ge k kk with e | e
    · have := x.pre k i e hk; rw [hS] at this; cases this
    · exact e
  obtain ⟨ok, hb⟩ := hx.ok k (by omega)
  have hle1 := hx.mono hc (show k ≤ k + 1 by omega) (by omega)
  have use : ∀ {kk : Nat} {m h w}, DInv ops base fr l d B m0 K0 h0 w0 a0 kk S a m h w → UseR ps (d k).v m (KS base l d K0 kk S) fr (d k).L a (usesOf ops o) := fun y => y.use hx hd0 ht0 y.same (fun id hid => KS0 hc hx y.le S hid) hk ho hS hrdy
  have hu := use x
  unfold wpOp
  simp only [ho]
  obtain ⟨r, h1, h2⟩ := hst
  rcases cOper_spec h1 with ⟨yy, t, e, g1, g2, g3, g4, g5, g6⟩ | ⟨g, g1, g2, g3, g4⟩
  · -- a move
    subst g5
    obtain ⟨hL, hs1, _⟩ : (d (k + 1)).L = (d k).L ∧ (d (k + 1)).s = (d k).s ∧ W k = [] := by
      rcases h2 with ⟨_, h2⟩ | ⟨_, _, h2, _⟩
      · exact h2
      · cases h2
    have he := isMove_noEff h1
    obtain ⟨k1, k2⟩ := isMove_spec g1
    have hw : Region.wanted o (yielded ops a.tmps) = true := by unfold Region.wanted; rw [k1]
    rw [if_pos hw]
    refine .inl ?_
    have hKS : ∀ id, KS base l d K0 kk S id → KS base l d K0 kk (addS S i) id := fun id hid => hid.imp (fun hh => hh) fun ⟨k, j, g1, g2, g3, g4⟩ => ⟨k, j, g1, g2, addS_old g3, g4⟩
    have hn : R (a.put o.dst (a.eval yy)) w := by
      refine hR kk _ m h w (x.pure hc hx hd0 hkk hk ho he hrdy (fun _ _ => rfl) (x.hr.weak hKS) (fun _ _ => rfl) (fun id c h3 h4 => ?_) (Below.refl _ _) fun t' e' h3 h4 => ?_)
      · rw [hs1] at h4
        have := ok.getLt h4
        omega
      · rw [g2] at h3
        cases h3
        rw [g6] at h4 ⊢
        simp only [look2_cons, if_true] at h4
        cases h4
        rw [hL]
        refine (hu.ofE (y := yy) (fun t'' ht => ?_) g4).mono hKS (fun _ _ => rfl)
        subst ht
        unfold usesOf
        refine List.mem_append_left _ ?_
        unfold tmpsOf
        refine List.mem_filterMap.2 ⟨.tmp t'', ?_, rfl⟩
        rcases k2 with k2 | k2 <;> rw [k2] <;> simp [Op.operands]
    unfold Oper.wp
    rcases k2 with k2 | k2 <;> (unfold execOp; rw [k2]; exact hn)
  · subst g1
    rcases h2 with ⟨h2, _⟩ | ⟨oo, c, h2, hL, hcase⟩
    · cases h2
    · cases h2
      -- what its own temporary holds then
      have hval : ∀ t e, o.dst = some t → look2 (d (k + 1)).v.l t = some e → rd (toX (d (k + 1)).v.cnt e) fr (d (k + 1)).L = c := by
        intro t e h3 h4
        rw [g2] at h4 ⊢
        unfold dstEnv dstE at h4 ⊢
        rw [h3] at h4 ⊢
        simp only [look2_cons, if_true] at h4
        cases h4
        rw [hL]
        show nth (c :: (d k).L) ((d k).v.cnt + 1 - 1 - (d k).v.cnt) = c
        rw [show (d k).v.cnt + 1 - 1 - (d k).v.cnt = 0 by omega]; rfl
      -- when it writes nothing of old
      have pure : isEff o = false → ∀ (u : Value) (w' : World) (m' : LM) (h' : HF), (∀ id, KS base l d K0 kk S id → m' id = m id) → HR B m' (KS base l d K0 kk (addS S i)) h' w' → (∀ id, (id < (d k).s.nxt ∨ (d (k + 1)).s.nxt ≤ id) → h' id = h id) → (∀ id c, (d k).s.nxt ≤ id → get (d (k + 1)).s.heap id = some c → h' id = some c) →
          Below B w w' → VR m' (KS base l d K0 kk (addS S i)) u c → R (a.put o.dst u) w' := fun he u w' m' h' q1 q2 q3 q4 q5 q6 =>
        hR kk _ m' h' w' (x.pure hc hx hd0 hkk hk ho he hrdy q1 q2 q3 q4 q5 fun t e h3 h4 => by rw [hval t e h3 h4]; exact q6)
      have hKS : ∀ id, KS base l d K0 kk S id → KS base l d K0 kk (addS S i) id := fun id hid => hid.imp (fun hh => hh) fun ⟨k, j, g1, g2, g3, g4⟩ => ⟨k, j, g1, g2, addS_old g3, g4⟩
      -- up to an effect all has been run
      have up : isEff o = true → DInv ops base fr l d B m0 K0 h0 w0 a0 k S a m h w := fun he => by
        have := x.advs hc hx (k - kk) kk (by omega) (fun k' j h3 h4 h5 => by
          refine ancs_good ops i j (hx.ord.eff k i o hk ho he j ?_) _ x.closed hrdy
          exact List.mem_take_iff_getElem.2 ⟨k', by have := (List.getElem?_eq_some_iff.1 h5).1; omega, (List.getElem?_eq_some_iff.1 h5).2⟩)
        rwa [show kk + (k - kk) = k by omega] at this
      rcases hcase with ⟨hw, rfl, hs1, hW⟩ | ⟨hw, hrd, hcase⟩
      · -- passed over
        have hw' := wanted_ok hu g4 hw
        rw [if_neg (by rw [hw']; simp)]
        cases he : isEff o with
        | false =>
          refine pure he undef w m h (fun _ _ => rfl) (x.hr.weak hKS) (fun _ _ => rfl) (fun id c h3 h4 => ?_) (Below.refl _ _) (.tup [] [] .nil)
          rw [hs1] at h4
          have := ok.getLt h4
          omega
        | true =>
          have y := up he
          refine hR (k + 1) _ m h w (y.effect hc hx hd0 hk ho hS hrdy (W1 := []) ?_ ?_ ?_ fun t e h3 h4 => by rw [hval t e h3 h4]; exact .tup [] [] .nil)
          · rw [hs1]; exact Pst.refl y.hr
          · rw [hs1]; exact y.sub
          · rw [hs1]; rfl
      · have hw' := wanted_ok hu g4 hw
        rw [if_pos hw']
        refine .inl ?_
        cases hins : cIns T ps (d k).v o.op with
        | none =>
          rw [hins] at hcase
          rcases hcase with ⟨h3, _⟩ | ⟨_, h3, _⟩ | ⟨_, _, _, _, h3, _⟩ <;> cases h3
        | some ins =>
          rw [hins] at hcase hrd
          simp only [Option.getD_some] at hcase hrd
          cases he : isEff o with
          | false =>
            have hkd := isEff_kind hins he
            have hv := step_isV ins fr (d k).L (d k).s hkd
            rcases hcase with ⟨h3, hW⟩ | ⟨s1, h3, _⟩ | ⟨f, args, s1, s2, h3, _⟩
            · have henv := hu.env
              have hval1 := ins_val hT hins henv x.hr (s := (d k).s) (fun id hid c hg => x.reads hc hx hfr hkk hk hrdy hrd hid (ins_reads hins henv id hid) hg) hkd h3 (w := w)
              rcases hval1 with ⟨hs1, u, r1, r2⟩ | ⟨lc, hone, hs1, hv1⟩
              · unfold Oper.wp
                rw [r1]
                refine pure he u w m h (fun _ _ => rfl) (x.hr.weak hKS) (fun _ _ => rfl) (fun id c h4 h5 => ?_) (Below.refl _ _) (r2.mono hKS (fun _ _ => rfl))
                rw [hs1] at h5
                have := ok.getLt h5
                omega
              · have hn1 : (d (k + 1)).s.nxt = Nat.succ (d k).s.nxt := by rw [hs1]
                obtain ⟨u, w', m', r1, r2, r3⟩ := hv1 (KS_new hc hx hfr hkk hk hS (Nat.le_refl _) (by rw [hn1]; exact Nat.lt_succ_self _))
                have hKx : ∀ id, Kx (KS base l d K0 kk S) (d k).s.nxt (Nat.succ (d k).s.nxt) id → KS base l d K0 kk (addS S i) id := fun id hid => by
                  rcases hid with hid | hid
                  · exact hKS id hid
                  · exact .inr ⟨k, i, hkk, hk, addS_self S i, hid.1, by rw [hn1]; exact hid.2⟩
                unfold Oper.wp
                rw [r1]
                refine pure he u w' m' _ r3.same (r3.hr.weak hKx) (fun id hid => ?_) (fun id c h4 h5 => ?_) r3.below (r2.mono hKx (fun _ _ => rfl))
                · rw [hn1] at hid
                  rcases hid with hid | hid
                  · exact r3.old id hid (by simp)
                  · exact r3.more id hid
                · rw [hs1] at h5
                  change get (((d k).s.nxt, lc) :: (d k).s.heap) id = some c at h5
                  rw [get_cons] at h5
                  by_cases e : (d k).s.nxt = id
                  · subst e
                    rw [if_pos rfl] at h5
                    rw [updF_same]; exact h5
                  · rw [if_neg e] at h5
                    have := ok.getLt h5
                    omega
            · rw [h3] at hv; exact hv.elim
            · rw [h3] at hv; exact hv.elim
          | true =>
            have y := up he
            have hu' := use y
            have henv := hu'.env
            have hfresh : Fr (KS base l d K0 k S) (d k).s.nxt (d (k + 1)).s.nxt := fun id h3 h4 => KS_new hc hx hfr (Nat.le_refl _) hk hS h3 h4
            rcases hcase with ⟨h3, hW⟩ | ⟨s1, h3, h4⟩ | ⟨f, args, s1, s2, h3, h4, h5⟩
            · exfalso
              rcases kind_le ins with hkd | hkd | hkd
              · exact isEff_kind' hins he hkd
              · have := step_isE ins fr (d k).L (d k).s hkd
                rw [h3] at this; exact this.elim
              · obtain ⟨f, args, rfl⟩ : ∃ f args, ins = .call f args := by cases ins <;> first | exact ⟨_, _, rfl⟩ | cases hkd
                rcases step_call f args fr (d k).L (d k).s with ⟨_, _, _, e⟩ | e <;> rw [e] at h3 <;> cases h3
            · have hn1 : (d (k + 1)).s.nxt = s1.nxt := by rw [h4]
              have hkd : ins.kind = 1 := by
                rcases kind_le ins with hkd | hkd | hkd
                · exact absurd hkd (isEff_kind' hins he)
                · exact hkd
                · obtain ⟨f, args, rfl⟩ : ∃ f args, ins = .call f args := by cases ins <;> first | exact ⟨_, _, rfl⟩ | cases hkd
                  rcases step_call f args fr (d k).L (d k).s with ⟨_, _, _, e⟩ | e <;> rw [e] at h3 <;> cases h3
              obtain ⟨_, _, wd1, n, u, w', m', h', r1, r2, r3, r4, r5⟩ := ins_eff hT hins henv y.hr y.sub ok (fun e => hfresh _ (Nat.le_refl _) (by rw [hn1]; exact e)) hkd h3
              have hn : ∀ u, VR m' (Kx (KS base l d K0 k S) (d k).s.nxt s1.nxt) u c → R (a.put o.dst u) w' := fun u r3 => by
                refine hR (k + 1) _ m' h' w' (y.effect hc hx hd0 hk ho hS hrdy (W1 := W k) (by rw [hn1]; exact r4) ?_ ?_ fun t e h6 h7 => by rw [hval t e h6 h7, hn1]; exact r3)
                · rw [h4]; exact r5
                · rw [h4, ← wd1]
              unfold Oper.wp
              rw [r1]
              rcases r2 with rfl | ⟨rfl, rfl⟩
              · exact hn u r3
              · exact hn undef r3
            · have hkd : ins.kind = 2 := by
                rcases kind_le ins with hkd | hkd | hkd
                · exact absurd hkd (isEff_kind' hins he)
                · have := step_isE ins fr (d k).L (d k).s hkd
                  rw [h3] at this; exact this.elim
                · exact hkd
              obtain ⟨rfl, vs, p1, p2⟩ := ins_call hins henv hkd h3
              have hn1 : (d (k + 1)).s.nxt = s2.nxt := by rw [h5]
              obtain ⟨⟨_, _, wd1, _⟩, ⟨fn, hen⟩, hcall⟩ := hc _ _ _ _ _ _ h4 ok
              unfold Oper.wp
              rw [p2 w, callFunc_run hen]
              refine Calls.mono (hcall B m _ h w vs p1 y.hr y.sub (by rw [← hn1]; exact hfresh)) fun e w' he' => ?_
              cases e with
              | returned u =>
                obtain ⟨m', h', r3, r4, r5⟩ := he'
                refine hR (k + 1) _ m' h' w' (y.effect hc hx hd0 hk ho hS hrdy (W1 := W k) (by rw [hn1]; exact r4) ?_ ?_ fun t e h6 h7 => by rw [hval t e h6 h7, hn1]; exact r3)
                · rw [h5]; exact r5
                · rw [h5, ← wd1]
              | panicked _ => exact he'.elim
              | outgrown => exact he'.elim
end
end Go.Pal
