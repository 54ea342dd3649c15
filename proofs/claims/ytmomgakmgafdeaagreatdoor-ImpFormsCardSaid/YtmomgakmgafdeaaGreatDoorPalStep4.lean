/-
  The operations that write, and the calls.
-/
import Derived.Test.YtmomgakmgafdeaaGreatDoorPalStep3
namespace Go.Pal
open Go.RowKit

theorem srcA_of {s : St} {esz n : Nat} {v : AV} {f : List AV → R} {r : R} (h : srcA s esz n v f = r) (hr : r ≠ .no) : srcR s esz n v f = r := by
  unfold srcA at h
  split at h
  · exact absurd h.symm hr
  · exact h
theorem append_types {tys : Array TypeId} {t tx : TypeId} (h0 : tys[0]? = some t) (h1 : tys[1]? = some tx) (ty : TypeId) (args : Array Value) : Builtin.append_ tys ty args = Builtin.append_ #[t, tx] ty args := by
  unfold Builtin.append_
  simp only [h0, h1]
  rfl
theorem copy_types {tys : Array TypeId} {t : TypeId} (h0 : tys[0]? = some t) (ty : TypeId) (args : Array Value) : Builtin.copy_ tys ty args = Builtin.copy_ #[t, t] ty args := by
  unfold Builtin.copy_
  simp only [h0]
  rfl
theorem clear_types {tys : Array TypeId} {t : TypeId} (h0 : tys[0]? = some t) (ty : TypeId) (args : Array Value) : Builtin.clear_ tys ty args = Builtin.clear_ #[t] ty args := by
  unfold Builtin.clear_
  simp only [h0]
  rfl
theorem cells_one {zv : Value} {m : LM} {K : Nat → Prop} {z : List AV} (hv : VRL m K zv.cells.toList z) (hz : allOk z = true) : ∀ u ∈ zv.cells.toList, u.oneCell' = true := by
  refine hv.oneCells ?_
  clear hv
  induction z with
  | nil => rfl
  | cons a z ih =>
    obtain ⟨h1, h2⟩ := and3 (show (one1 a && allOk z) = true from hz)
    show (bif one? a then allOne z else false) = true
    have : one? a = true := by cases a <;> first | rfl | cases h1
    rw [this]; exact ih h2

section
variable {P : Program} {B : Nat} {m : LM} {K : Nat → Prop} {h : HF} {w : World} {T : TT}

theorem ins_eff (hT : ∀ t ti, T t = some ti → TIr P t ti) {ps : PS} {v : Env} {o : Oper} {i : I} (hi : cIns T ps v o.op = some i) {ρ : Operand → Value} {fr : Tr} {L : List AV} (hρ : EnvR ρ ps v m K fr L o.op.operands.toList)
    (x : HR B m K h w) {s s' : St} (hs : Sub s h) (ok : OKs s) (hfr : s.nxt < s'.nxt → ¬ K s.nxt) {c : AV} {W : List Nat} (hk : i.kind = 1) (hr : step i fr L s = .eff c s' W) : EffOk P B w (execOp ρ o) m K h s s' W c := by
  obtain ⟨dst, op, type, pos, after, guard⟩ := o
  simp only at hi hρ
  cases op with
  | store t a b =>
    simp only [cIns] at hi
    split at hi
    · rename_i ti hti
      obtain ⟨y1, y2, h1, h2, rfl⟩ := x2_spec hi
      have g1 := hρ a (by simp [Op.operands]) y1 h1
      have g2 := hρ b (by simp [Op.operands]) y2 h2
      have hr' : storeR s (rd y1 fr L) (rd y2 fr L) ti.size = .eff c s' W := hr
      obtain ⟨q1, q2, q3, _⟩ := storeR_st ok hr'
      obtain ⟨rfl, e2, w', m', h', r1, r2, r3⟩ := store_ok (P := P) (hT t ti hti) x hs ok g1 g2 hr'
      refine ⟨q1, q2, q3, .skip, undef, w', m', h', ?_, .inr ⟨rfl, rfl⟩, .undef _, by rw [e2]; exact r2, r3⟩
      simp only [execOp, Sem.run_bind, r1, Result.andThen_ok, Sem.run_pure]
    · cases hi
  | call cl =>
    obtain ⟨callee, args, tys⟩ := cl
    obtain ⟨args⟩ := args
    cases callee with
    | invoke _ _ => cases hi
    | value f =>
      exfalso
      simp only [cIns] at hi
      split at hi
      · cases hi; cases hk
      · cases hi
    | builtin b =>
      have hb : ∀ as, (⟨args⟩ : Array Operand).map ρ = as → EffOk P B w (builtin b tys type ((⟨args⟩ : Array Operand).map fun | .const _ => true | _ => false) as) m K h s s' W c → EffOk P B w (execOp ρ ⟨dst, .call ⟨.builtin b, ⟨args⟩, tys⟩, type, pos, after, guard⟩) m K h s s' W c := fun q hq hv => by
        subst hq
        exact hv
      cases b <;> (rcases args with _ | ⟨a, _ | ⟨b, _ | ⟨d, args⟩⟩⟩) <;> first | (cases hi; done) | skip
      all_goals simp only [cIns] at hi
      case append.cons.cons.nil =>
        split at hi
        · rename_i t ht
          split at hi
          · rename_i te hte
            obtain ⟨e, hE⟩ := elemT_spec hT hte
            obtain ⟨ii, zv, hii, hsz, hby, hzv, hvz, hzs⟩ := hE.zero m K
            have hpos : 0 < ii.size := by have := hE.pos; omega
            have hb4 : ii.bytes ≤ 4096 := by have := hE.bmax; omega
            split at hi
            · rename_i tu htu
              split at hi
              · rename_i ui hui
                split at hi
                · rename_i ku hku
                  obtain ⟨y1, y2, h1, h2, rfl⟩ := x2_spec hi
                  have g1 := hρ a (by simp [Op.operands, Call.operands]) y1 h1
                  have g2 := hρ b (by simp [Op.operands, Call.operands]) y2 h2
                  have hr' : (onNat (rd y2 fr L) fun n => small n (lenA? (rd y1 fr L) fun k => small k (bif Nat.beq (lenA (zcells te.z)) te.size then appR s te.size (rd y1 fr L) n (rep n (zcells te.z)) else .no))) = .eff c s' W := hr
                  obtain ⟨k2, n, e2, hr1⟩ := onNat_vr g2 hr' (by simp)
                  obtain ⟨hn, hr2⟩ := small_of hr1 (by simp)
                  obtain ⟨k, hk1, hr3⟩ := lenA_of hr2 (by simp)
                  obtain ⟨hkb, hr4⟩ := small_of hr3 (by simp)
                  obtain ⟨_, hr5⟩ := cond_of hr4 (by simp)
                  obtain ⟨q1, q2, q3, _⟩ := appR_st ok hr5
                  rw [← hsz] at hr5
                  have hS := AppS.ofZeros (w := w) hE.sl ((hT _ _ hui).int hku) hii hzv (by omega) hpos hb4 (cells_one hvz hE.zok) (k := k2) hn
                  have := app_ok x hs ok hfr hS (by omega) hpos hb4 (rep_ok hvz n) g1 hk1 hkb hn hr5 type
                  rw [← append_types ht htu, ← e2] at this
                  exact hb #[ρ a, ρ b] (by simp) (.of q1 q2 q3 this)
                · rename_i hku
                  obtain ⟨y1, y2, h1, h2, rfl⟩ := x2_spec hi
                  have g1 := hρ a (by simp [Op.operands, Call.operands]) y1 h1
                  have g2 := hρ b (by simp [Op.operands, Call.operands]) y2 h2
                  have hr' : (lenA? (rd y2 fr L) fun n => small n (lenA? (rd y1 fr L) fun k => small k (srcA s te.size n (rd y2 fr L) fun l => appR s te.size (rd y1 fr L) n l))) = .eff c s' W := hr
                  obtain ⟨n, hn0, hr1⟩ := lenA_of hr' (by simp)
                  obtain ⟨hn, hr2⟩ := small_of hr1 (by simp)
                  obtain ⟨k, hk1, hr3⟩ := lenA_of hr2 (by simp)
                  obtain ⟨hkb, hr4⟩ := small_of hr3 (by simp)
                  have hr5 := srcA_of hr4 (by simp)
                  rw [← hsz] at hr5
                  obtain ⟨us, l, p1, p2, p3, p4, hr6, p5⟩ := srcR_ok (P := P) x hs g2 hr5 (by simp)
                  obtain ⟨q1, q2, q3, _⟩ := appR_st ok hr6
                  have hsrc := p5 n hn0 rfl tu _ ((hT _ _ hui).slice hku)
                  have hS := AppS.ofSrc (w := w) hE.sl hii hzv hsrc
                  have := app_ok x hs ok hfr hS (by omega) hpos hb4 p3 g1 hk1 hkb hn hr6 type
                  rw [← append_types ht htu] at this
                  exact hb #[ρ a, ρ b] (by simp) (.of q1 q2 q3 this)
                · cases hi
              · cases hi
            · cases hi
          · cases hi
        · cases hi
      case copy.cons.cons.nil =>
        split at hi
        · rename_i t ht
          split at hi
          · rename_i te hte
            obtain ⟨e, hE⟩ := elemT_spec hT hte
            obtain ⟨ii, zv, hii, hsz, hby, hzv, hvz, hzs⟩ := hE.zero m K
            obtain ⟨y1, y2, h1, h2, rfl⟩ := x2_spec hi
            have g1 := hρ a (by simp [Op.operands, Call.operands]) y1 h1
            have g2 := hρ b (by simp [Op.operands, Call.operands]) y2 h2
            have hr' : cpyR s te.size (rd y1 fr L) (rd y2 fr L) = .eff c s' W := hr
            obtain ⟨q1, q2, q3, _⟩ := cpyR_st ok hr'
            rw [← hsz] at hr'
            have := cpy_ok (tx := t) x hs ok hE.sl hii g1 g2 hr' type
            rw [← copy_types ht] at this
            exact hb #[ρ a, ρ b] (by simp) (.of q1 q2 q3 this)
          · cases hi
        · cases hi
      case clear.cons.nil =>
        split at hi
        · rename_i t ht
          split at hi
          · rename_i te hte
            obtain ⟨e, hE⟩ := elemT_spec hT hte
            obtain ⟨y1, h1, rfl⟩ := x1_spec hi
            have g1 := hρ a (by simp [Op.operands, Call.operands]) y1 h1
            have hr' : clrR s te.size (zcells te.z) (rd y1 fr L) = .eff c s' W := hr
            obtain ⟨q1, q2, q3, _⟩ := clrR_st ok hr'
            have := clr_ok x hs ok hE g1 hr' type
            rw [← clear_types ht] at this
            exact hb #[ρ a] (by simp) (.of q1 q2 q3 this)
          · cases hi
        · cases hi
      all_goals
        exfalso
        revert hi
        repeat' split
        all_goals (intro hi; first | (cases hi; done) | (obtain ⟨_, _, _, _, rfl⟩ := x2_spec hi; cases hk) | (obtain ⟨_, _, rfl⟩ := x1_spec hi; cases hk) | (cases hi; cases hk))
  | unOp op t a =>
    cases op <;> first | (cases hi; done) | skip
    obtain ⟨y, hy, rfl⟩ := x1_spec (show x1 ps v a .not = _ from hi)
    cases hk
  | makeFunc f first cs =>
    obtain ⟨first⟩ := first
    cases f <;> cases first <;> first | (cases hi; done) | skip
    rename_i f
    obtain ⟨as, has, rfl⟩ := map_some' (show (cXs ps v cs.toList).map (.mkf f) = some i from hi)
    cases hk
  | _ =>
    all_goals
      exfalso
      revert hi
      simp only [cIns]
      repeat' split
      all_goals (intro hi; first | (cases hi; done) | (obtain ⟨_, _, _, _, rfl⟩ := x2_spec hi; cases hk) | (obtain ⟨_, _, rfl⟩ := x1_spec hi; cases hk) | (obtain ⟨_, _, _, _, _, _, rfl⟩ := x3_spec hi; cases hk) | (obtain ⟨_, _, rfl⟩ := map_some' hi; cases hk) | (cases hi; cases hk) | (obtain ⟨_, hi⟩ := bif_some hi; first | (obtain ⟨_, _, rfl⟩ := x1_spec hi; cases hk) | (obtain ⟨_, _, _, _, rfl⟩ := x2_spec hi; cases hk) | (obtain ⟨_, _, rfl⟩ := map_some' hi; cases hk) | (cases hi; cases hk)))
end
end Go.Pal
namespace Go.Pal
open Go.RowKit
section
variable {P : Program} {B : Nat} {m : LM} {K : Nat → Prop} {h : HF} {w : World} {T : TT}

/-- A function with a body of its own. -/
def Enters (P : Program) (f : FuncId) (fn : Func) : Prop := P.funcs[f]? = some fn ∧ fn.body.isSome = true ∧ fn.name ≠ "runtime.NumGoroutine"
theorem callFunc_run {f : FuncId} {fn : Func} (hf : Enters P f fn) (args : Array Value) (w : World) : (callFunc f args).run P w = .ok (.enter f args) w := by
  obtain ⟨h1, h2, h3⟩ := hf
  have h2' : fn.body ≠ none := fun e => by rw [e] at h2; cases h2
  simp [callFunc, h1, h2', h3]

theorem ins_call {ps : PS} {v : Env} {o : Oper} {i : I} (hi : cIns T ps v o.op = some i) {ρ : Operand → Value} {fr : Tr} {L : List AV} (hρ : EnvR ρ ps v m K fr L o.op.operands.toList)
    {s s' : St} {f : Nat} {args : List AV} (hk : i.kind = 2) (hr : step i fr L s = .call f args s') : s' = s ∧ ∃ vs, VRL m K vs args ∧ ∀ w, (execOp ρ o).run P w = (callFunc f ⟨vs⟩).run P w := by
  obtain ⟨dst, op, type, pos, after, guard⟩ := o
  simp only at hi hρ
  cases op with
  | call cl =>
    obtain ⟨callee, as, tys⟩ := cl
    obtain ⟨as⟩ := as
    cases callee with
    | invoke _ _ => cases hi
    | value g =>
      simp only [cIns] at hi
      split at hi
      · rename_i a b ha hb
        cases hi
        rcases step_call a b fr L s with ⟨g', cs, h1, h2⟩ | h1
        · rw [h2] at hr
          cases hr
          have q1 := hρ g (by simp [Op.operands, Call.operands]) a ha
          have q2 := cXs_spec (ρ := ρ) (m := m) (K := K) (fr := fr) (L := L) hb (fun y hy => hρ y (by simp [Op.operands, Call.operands, hy]))
          rw [h1] at q1
          generalize hx : ρ g = xg at *
          cases q1
          rename_i vcs q1
          refine ⟨rfl, as.map ρ ++ vcs, by rw [app_eq]; exact q2.append q1, fun w => ?_⟩
          simp only [execOp, resolve, hx, Deferred.ofValue, Sem.run_bind, Sem.run_pure, Result.andThen_ok, invoke]
          congr 2
          apply Array.ext'
          simp
        · rw [h1] at hr; cases hr
      · cases hi
    | builtin b =>
      exfalso
      cases b <;> (rcases as with _ | ⟨a, _ | ⟨b, _ | ⟨d, args⟩⟩⟩) <;> first | (cases hi; done) | skip
      all_goals simp only [cIns] at hi
      all_goals
        revert hi
        repeat' split
        all_goals (intro hi; first | (cases hi; done) | (obtain ⟨_, _, _, _, rfl⟩ := x2_spec hi; cases hk) | (obtain ⟨_, _, rfl⟩ := x1_spec hi; cases hk) | (cases hi; cases hk))
  | unOp op t a =>
    cases op <;> first | (cases hi; done) | skip
    obtain ⟨y, hy, rfl⟩ := x1_spec (show x1 ps v a .not = _ from hi)
    cases hk
  | makeFunc f first cs =>
    obtain ⟨first⟩ := first
    cases f <;> cases first <;> first | (cases hi; done) | skip
    rename_i f
    obtain ⟨as, has, rfl⟩ := map_some' (show (cXs ps v cs.toList).map (.mkf f) = some i from hi)
    cases hk
  | _ =>
    all_goals
      exfalso
      revert hi
      simp only [cIns]
      repeat' split
      all_goals (intro hi; first | (cases hi; done) | (obtain ⟨_, _, _, _, rfl⟩ := x2_spec hi; cases hk) | (obtain ⟨_, _, rfl⟩ := x1_spec hi; cases hk) | (obtain ⟨_, _, _, _, _, _, rfl⟩ := x3_spec hi; cases hk) | (obtain ⟨_, _, rfl⟩ := map_some' hi; cases hk) | (cases hi; cases hk) | (obtain ⟨_, hi⟩ := bif_some hi; first | (obtain ⟨_, _, rfl⟩ := x1_spec hi; cases hk) | (obtain ⟨_, _, _, _, rfl⟩ := x2_spec hi; cases hk) | (obtain ⟨_, _, rfl⟩ := map_some' hi; cases hk) | (cases hi; cases hk)))

theorem kind_le (i : I) : i.kind = 0 ∨ i.kind = 1 ∨ i.kind = 2 := by cases i <;> simp [I.kind]
end
end Go.Pal
