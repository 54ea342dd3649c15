/-
  Functions: what the evaluator says of a call holds.
-/
import Derived.Test.YtmomgakmgafdeaaGreatDoorPalCode
namespace Go.Pal
open Go.RowKit

/-! ### Results -/
def resSem (tmps : Array Value) : ResultVar → Sem Value
  | .tmp t => pure (tmps.getD t undef)
  | .cell a t => do loadVar t (← asAddr (tmps.getD a undef))
theorem results_eq (fn : Func) (tmps : Array Value) : Go.results fn tmps = (do
    let vs ← fn.results.mapM (resSem tmps)
    pure (if h : vs.size = 1 then vs[0] else .tuple vs)) := by
  unfold Go.results
  congr 1

theorem results_cons (fr : Tr) (s : St) (p : P × Option (Nat × Bool)) (l : List (P × Option (Nat × Bool))) (f : List AV → RF) :
    Pal.results fr s (p :: l) f = Option.casesOn (motive := fun _ => RF) p.2 (Pal.results fr s l fun r => f (look p.1 fr :: r))
      (fun q => R.casesOn (motive := fun _ => RF) (loadR s (look p.1 fr) q.1 q.2) .no (fun v _ => Pal.results fr s l fun r => f (v :: r)) (fun _ _ _ => .no) (fun _ _ _ => .no)) := rfl

theorem results_ok {P : Program} {T : TT} (hT : ∀ t ti, T t = some ti → TIr P t ti) {ps : PS} {fr : Tr} {s : St} : ∀ (rs : List ResultVar) (res : List (Pal.P × Option (Nat × Bool))), cRes T ps rs = some res → ∀ (f : List AV → RF) (r : RF), Pal.results fr s res f = r → r ≠ .no →
    ∃ l, f l = r ∧ ∀ {B : Nat} {m : LM} {K : Nat → Prop} {h : HF} {w : World} {a : Act} {D nt : Nat}, FrR D ps nt m K fr a → HR B m K h w → Sub s h → ∃ us, (rs.mapM (resSem a.tmps)).run P w = .ok us w ∧ VRL m K us l
  | [], res, hc, f, r, hr, hne => by
    cases hc
    exact ⟨[], hr, fun _ _ _ => ⟨[], by simp, .nil⟩⟩
  | .tmp t :: rs, res, hc, f, r, hr, hne => by
    simp only [cRes] at hc
    split at hc
    · rename_i p l hp hl
      cases hc
      rw [results_cons] at hr
      obtain ⟨l', h1, h2⟩ := results_ok hT rs l hl _ r hr hne
      refine ⟨_, h1, fun hf hh hs => ?_⟩
      obtain ⟨us, g1, g2⟩ := h2 hf hh hs
      refine ⟨_ :: us, ?_, .cons (hf.val t p hp) g2⟩
      simp only [List.mapM_cons, Sem.run_bind, resSem, Sem.run_pure, Result.andThen_ok, g1]
    · cases hc
  | .cell b t :: rs, res, hc, f, r, hr, hne => by
    simp only [cRes] at hc
    split at hc
    · rename_i p ti l hp hti hl
      obtain ⟨hb, hc⟩ := bif_some hc
      cases hc
      rw [results_cons] at hr
      cases hld : loadR s (look p fr) ti.size ti.agg with
      | no => simp only [hld] at hr; exact absurd hr.symm hne
      | eff _ _ _ => simp only [hld] at hr; exact absurd hr.symm hne
      | call _ _ _ => simp only [hld] at hr; exact absurd hr.symm hne
      | val v s1 =>
        simp only [hld] at hr
        obtain ⟨l', h1, h2⟩ := results_ok hT rs l hl _ r hr hne
        refine ⟨_, h1, fun {B m K h w a D nt} hf hh hs => ?_⟩
        obtain ⟨us, g1, g2⟩ := h2 hf hh hs
        have hv := hf.val b p hp
        generalize look p fr = av at *
        generalize hx : a.tmps.getD b undef = xa at hv
        cases hv <;> first | (cases hld; done) | skip
        rename_i id off hid
        obtain ⟨c0, hc0, hr1⟩ := orNo_of (show orNo (get s.heap id) (fun c => orNo (cellsAt c off ti.size) fun l => mkV ti.agg l s) = _ from hld) (by simp)
        obtain ⟨l0, hl0, hr2⟩ := orNo_of hr1 (by simp)
        obtain ⟨u, q1, q2⟩ := run_load' (P := P) hh (hT t ti hti) (hs id c0 hc0) hl0 hr2
        refine ⟨u :: us, ?_, .cons q2 g2⟩
        simp only [List.mapM_cons, Sem.run_bind, resSem, hx, asAddr, Sem.run_pure, Result.andThen_ok, q1, g1]
    · cases hc

theorem fin_spec {s s' s2 : St} {v v' : AV} {W : List Nat} (h : fin s s' v = .ok v' s2 W) : v' = v ∧ s2.nxt = s'.nxt ∧ s2.wd = s.wd ∧ s2.heap.Sublist s'.heap ∧ W = s'.wd := by
  have e : fin s s' v = List.casesOn (motive := fun _ => RF) s'.wd
   (List.casesOn (motive := fun _ => RF) (refV v) (RF.ok v ⟨dropNew s.nxt s'.heap, s'.nxt, s.wd⟩ []) (fun a r => .ok v ⟨keep s.nxt (gc s.nxt s'.heap 100000 (a :: r) []) s'.heap, s'.nxt, s.wd⟩ []))
   (fun a r => .ok v ⟨keep s.nxt (gc s.nxt s'.heap 100000 (cellsOfL s'.heap (a :: r) (refV v)) []) s'.heap, s'.nxt, s.wd⟩ (a :: r)) := rfl
  rw [e] at h
  cases hw : s'.wd with
  | nil =>
    rw [hw] at h
    cases hr : refV v with
    | nil =>
      rw [hr] at h
      simp only [RF.ok.injEq] at h
      obtain ⟨rfl, rfl, rfl⟩ := h
      exact ⟨rfl, rfl, rfl, dropNew_sub _ _, rfl⟩
    | cons a r =>
      rw [hr] at h
      simp only [RF.ok.injEq] at h
      obtain ⟨rfl, rfl, rfl⟩ := h
      exact ⟨rfl, rfl, rfl, keep_sub _ _ _, rfl⟩
  | cons a r =>
    rw [hw] at h
    simp only [RF.ok.injEq] at h
    obtain ⟨rfl, rfl, rfl⟩ := h
    exact ⟨rfl, rfl, rfl, keep_sub _ _ _, rfl⟩

theorem one_vr {m : LM} {K : Nat → Prop} {us : List Value} {l : List AV} (h : VRL m K us l) : VR m K (if h : (⟨us⟩ : Array Value).size = 1 then (⟨us⟩ : Array Value)[0] else .tuple ⟨us⟩) (one l) := by
  cases h with
  | nil => exact .tup [] [] .nil
  | cons h1 t =>
    cases t with
    | nil => exact h1
    | cons h2 t =>
      rw [dif_neg (by simp)]
      exact .tup _ _ (.cons h1 (.cons h2 t))

/-! ### A function -/
theorem cF_spec {T : TT} {a : Aid} {f : Func} {fn : FN} (h : cF T a f = some fn) : ∃ c C r, f.body = some c ∧ okPs a.d a.ps = true ∧ f.name ≠ "runtime.NumGoroutine" ∧ cC T a.ps a.od f.ntmps c = some C ∧ cRes T a.ps f.results.toList = some r ∧
    fn = { ini := full a.d, par := (List.range (f.params.size + f.nfree)).map (look2 a.ps), code := C, res := r } := by
  unfold cF at h
  split at h
  · cases h
  · rename_i c hc
    obtain ⟨hb, h⟩ := bif_some h
    obtain ⟨b1, b2⟩ := and3 hb
    split at h
    · rename_i C r hC hr
      cases h
      exact ⟨c, C, r, hc, b1, by simpa using b2, hC, hr, rfl⟩
    · cases h

/-- The table of functions is the program's. -/
def FnsOk (P : Program) (T : TT) (F : Nat → Option FN) : Prop := ∀ f fn, F f = some fn → ∃ func aid, P.funcs[f]? = some func ∧ cF T aid func = some fn

theorem call_step {P : Program} {T : TT} (hT : ∀ t ti, T t = some ti → TIr P t ti) {F : Nat → Option FN} (hF : FnsOk P T F) {ih : CT × FT} (hc : CodeOk P T ih.1) : CallOk P (stF F ih) := by
  intro f args s v s' W hr ok
  have e : stF F ih f args s = Option.casesOn (motive := fun _ => RF) (F f) .no fun fn =>
      RC.casesOn (motive := fun _ => RF) (ih.1 fn.code s.nxt (iniF fn.par args fn.ini) ⟨s.heap, s.nxt, []⟩) .no (fun fr s' => retF fn s fr s') (fun _ _ _ => .no) (fun fr s' => retF fn s fr s') := rfl
  rw [e] at hr
  cases hf : F f with
  | none => rw [hf] at hr; cases hr
  | some fn =>
    rw [hf] at hr
    obtain ⟨func, aid, hfun, hcf⟩ := hF f fn hf
    obtain ⟨c, C, r, hbody, hk, hname, hC, hres, rfl⟩ := cF_spec hcf
    simp only at hr
    have hen : Enters P f func := ⟨hfun, by rw [hbody]; rfl, hname⟩
    have ok0 : OKs (⟨s.heap, s.nxt, []⟩ : St) := ⟨ok.desc, ok.lt⟩
    -- behind the body, whether it ends or returns
    have key : ∀ fr1 s1, retF { ini := full aid.d, par := (List.range (func.params.size + func.nfree)).map (look2 aid.ps), code := C, res := r } s fr1 s1 = .ok v s' W →
        Fra s.nxt ⟨s.heap, s.nxt, []⟩ s1 → StOk s s' W ∧ s1.nxt = s'.nxt ∧ (∀ B m K h w, HR B m K h w → Sub s h → Fr K s.nxt s'.nxt → FGoal B s.nxt m K h w aid.d aid.ps func.ntmps fr1 s1 (fun a w' => a.defers = [] ∧ ∃ u, (Go.results func a.tmps).run P w' = .ok u w' ∧
          ∃ m' h', VR m' (Kx K s.nxt s'.nxt) u v ∧ Pst B s.nxt s'.nxt W m K h w m' h' w' ∧ Sub s' h')) := by
      intro fr1 s1 hret hfra
      obtain ⟨l, hl, hus⟩ := results_ok hT (ps := aid.ps) (fr := fr1) (s := s1) func.results.toList r hres _ _ (show Pal.results fr1 s1 r (fun l => fin s s1 (one l)) = _ from hret) (by simp)
      obtain ⟨rfl, e2, e3, e4, rfl⟩ := fin_spec hl
      have ok' : OKs s' := by
        have := hfra.ok.sub e4 (Nat.le_of_eq e2.symm) s.wd
        rw [← e3] at this
        exact this
      refine ⟨⟨ok', by rw [e2]; exact hfra.le, e3, fun id d h1 h2 h => hfra.frame id d h1 h2 (get_sub e4 hfra.ok.desc h)⟩, e2.symm, fun B m K h w hh hs hfr a m1 h1 w1 ha hi => ⟨ha.noDefers, ?_⟩⟩
      obtain ⟨us, g1, g2⟩ := hus ha hi.pst.hr hi.sub
      refine ⟨(if h : (⟨us⟩ : Array Value).size = 1 then (⟨us⟩ : Array Value)[0] else .tuple ⟨us⟩), ?_, m1, h1, ?_, ?_, ?_⟩
      · rw [results_eq, Sem.run_bind, Array.mapM_eq_mapM_toList, Sem.run_map, g1]
        rfl
      · rw [e2]; exact one_vr g2
      · rw [e2]; exact hi.pst
      · exact fun id d hd => hi.sub id d (get_sub e4 hfra.ok.desc hd)
    -- the frame that the call finds
    have hini : ∀ (B : Nat) (m : LM) (K : Nat → Prop) (h : HF) (w : World) (vs : List Value), VRL m K vs args → FrR aid.d aid.ps func.ntmps m (Kx K s.nxt s.nxt) (iniF ((List.range (func.params.size + func.nfree)).map (look2 aid.ps)) args (full aid.d)) { tmps := (⟨vs⟩ : Array Value) ++ Array.replicate (func.ntmps - (⟨vs⟩ : Array Value).size) undef, defers := [] } := by
      intro B m K h w vs hv
      have := iniF_spec hk (m := m) (K := Kx K s.nxt s.nxt) (fun t => ((⟨vs⟩ : Array Value) ++ Array.replicate (func.ntmps - (⟨vs⟩ : Array Value).size) undef).getD t undef) (func.params.size + func.nfree) 0 args (full aid.d) (full_shape _) (fun j a ha => by
        obtain ⟨u, g1, g2⟩ := hv.get j a ha
        have hj := (List.getElem?_eq_some_iff.1 g1).1
        have : ((⟨vs⟩ : Array Value) ++ Array.replicate (func.ntmps - (⟨vs⟩ : Array Value).size) undef).getD (0 + j) undef = u := by
          rw [Nat.zero_add, Array.getD_eq_getD_getElem?, Array.getElem?_append_left (by simpa using hj)]
          simp [g1]
        rw [this]
        exact g2.mono Kx.le (fun _ _ => rfl)) (fun t p _ => by rw [look_full]; exact .undef _)
      rw [← List.range_eq_range'] at this
      exact ⟨by simp; omega, this.1, this.2, rfl⟩
    cases h1 : ih.1 C s.nxt (iniF ((List.range (func.params.size + func.nfree)).map (look2 aid.ps)) args (full aid.d)) ⟨s.heap, s.nxt, []⟩ with
    | no => rw [h1] at hr; cases hr
    | ext n fr1 s1 => rw [h1] at hr; cases hr
    | nrm fr1 s1 =>
      rw [h1] at hr
      obtain ⟨F1, g⟩ := hc aid.d aid.ps aid.od func.ntmps hk c C hC s.nxt _ _ s1 (by rw [h1]; rfl) ok0 (Nat.le_refl _)
      obtain ⟨k1, k2, k3⟩ := key fr1 s1 hr F1
      refine ⟨k1, ⟨func, hen⟩, fun B m K h w vs hv hh hs hfr => calls_of_wp hfun hbody ?_⟩
      rw [h1] at g
      exact g B m K h w (by rw [k2]; exact hfr) (bodyPost P func (RetOk B m K h w s.nxt W s' v)) (fun a m1 h2 w1 ha hi => k3 B m K h w hh hs hfr a m1 h2 w1 ha hi) _ m h w (hini B m K h w vs hv) ⟨ok0, hs, .refl hh⟩
    | ret fr1 s1 =>
      rw [h1] at hr
      obtain ⟨F1, g⟩ := hc aid.d aid.ps aid.od func.ntmps hk c C hC s.nxt _ _ s1 (by rw [h1]; rfl) ok0 (Nat.le_refl _)
      obtain ⟨k1, k2, k3⟩ := key fr1 s1 hr F1
      refine ⟨k1, ⟨func, hen⟩, fun B m K h w vs hv hh hs hfr => calls_of_wp hfun hbody ?_⟩
      rw [h1] at g
      exact g B m K h w (by rw [k2]; exact hfr) (bodyPost P func (RetOk B m K h w s.nxt W s' v)) (fun a m1 h2 w1 ha hi => k3 B m K h w hh hs hfr a m1 h2 w1 ha hi) _ m h w (hini B m K h w vs hv) ⟨ok0, hs, .refl hh⟩

/-- What is told of a function from elsewhere. -/
def OracOk (P : Program) (f : Nat) (o : FT) : Prop := CallOk P (fun g args s => bif Nat.beq g f then o f args s else .no)

theorem all_ok {P : Program} {T : TT} (hT : ∀ t ti, T t = some ti → TIr P t ti) (hD : DrwOk P T) {F : Nat → Option FN} (hF : FnsOk P T F) {Q : Nat → Option FT} (hQ : ∀ f o, Q f = some o → OracOk P f o) : ∀ n, CodeOk P T (evAll Q F n).1 ∧ LoopOk P T (evAll Q F n).1 ∧ CallOk P (evAll Q F n).2
  | 0 => ⟨(fun _ _ _ _ _ _ _ _ _ _ _ _ h => by cases h), (fun _ _ _ _ _ _ _ _ _ _ _ _ h => by cases h), (fun _ _ _ _ _ _ h => by cases h)⟩
  | n + 1 => by
    obtain ⟨h1, h2, h3⟩ := all_ok hT hD hF hQ n
    have hl : LoopOk P T (stC (evAll Q F n)) := loop_step h1 h2
    refine ⟨code_step hT hD h1 hl h3, hl, ?_⟩
    intro f args s v s' W hr ok
    have e : (evAll Q F (n + 1)).2 f args s = Option.casesOn (motive := fun _ => RF) (Q f) (stF F (evAll Q F n) f args s) fun o => o f args s := rfl
    rw [e] at hr
    cases hq : Q f with
    | none => rw [hq] at hr; exact call_step hT hF h1 f args s v s' W hr ok
    | some o =>
      rw [hq] at hr
      exact hQ f o hq f args s v s' W (by show (bif Nat.beq f f then o f args s else .no) = _; rw [nbeq_self]; exact hr) ok
end Go.Pal
