/-
  Oracles: what is told of a function from elsewhere. A call that was reckoned once ('memo'); a contract whose world is as it was below its end; and the closed run's end.
-/
import Derived.Test.YtmomgakmgafdeaaGreatDoorPalDrw7
namespace Go.Pal
open Go.RowKit

/-! ### Are two values, heaps, states one? By recursors -/
noncomputable def bB (b c : Bool) : Bool := Bool.casesOn b (not c) c
noncomputable def beqV (x : AV) : AV → Bool := AV.rec (motive_1 := fun _ => AV → Bool) (motive_2 := fun _ => List AV → Bool)
  (fun b y => match y with | .bool c => bB b c | _ => false)
  (fun k n y => match y with | .int k' n' => bif Nat.beq (kno k) (kno k') then eqI n n' else false | _ => false)
  (fun l y => match y with | .str l' => beqN l l' | _ => false)
  (fun a b y => match y with | .ptr c d => bif Nat.beq a c then Nat.beq b d else false | _ => false)
  (fun y => match y with | .nilptr => true | _ => false)
  (fun a b c d y => match y with | .sl e f g h => bif Nat.beq a e then bif Nat.beq b f then bif Nat.beq c g then Nat.beq d h else false else false else false | _ => false)
  (fun a b c d y => match y with | .so e f g h => bif Nat.beq a e then bif Nat.beq b f then bif Nat.beq c g then Nat.beq d h else false else false else false | _ => false)
  (fun y => match y with | .nilsl => true | _ => false)
  (fun f _ ih y => match y with | .fn g cs => bif Nat.beq f g then ih cs else false | _ => false)
  (fun _ ih y => match y with | .agg l => ih l | _ => false)
  (fun _ ih y => match y with | .tup l => ih l | _ => false)
  (fun y => match y with | .undef => true | _ => false)
  (fun y => List.casesOn y true fun _ _ => false)
  (fun _ _ ih1 ih2 y => List.casesOn y false fun b r => bif ih1 b then ih2 r else false) x
noncomputable def beqL (x : List AV) : List AV → Bool := List.rec (motive := fun _ => List AV → Bool) (fun y => List.casesOn y true fun _ _ => false)
  (fun a _ ih y => List.casesOn y false fun b r => bif beqV a b then ih r else false) x
noncomputable def beqH (x : Heap) : Heap → Bool := List.rec (motive := fun _ => Heap → Bool) (fun y => List.casesOn y true fun _ _ => false)
  (fun a _ ih y => List.casesOn y false fun b r => bif Nat.beq a.1 b.1 then bif beqL a.2 b.2 then ih r else false else false) x
noncomputable def beqS (a b : St) : Bool := bif Nat.beq a.nxt b.nxt then bif beqN a.wd b.wd then beqH a.heap b.heap else false else false
noncomputable def beqR (a b : RF) : Bool := RF.casesOn a false fun v s w => RF.casesOn b false fun v' s' w' => bif beqV v v' then bif beqN w w' then beqS s s' else false else false

theorem bif2 {b c : Bool} (h : (bif b then c else false) = true) : b = true ∧ c = true := by cases b <;> cases c <;> first | exact ⟨rfl, rfl⟩ | cases h
theorem bB_eq {b c : Bool} (h : bB b c = true) : b = c := by cases b <;> cases c <;> first | rfl | cases h
theorem beqN_of {a b : List Nat} (h : beqN a b = true) : a = b := by rw [beqN_eq] at h; exact eq_of_beq h
theorem eqI_of {a b : Int} (h : eqI a b = true) : a = b := by rw [eqI_eq] at h; exact eq_of_beq h

/-- The list's own rounds within a value. -/
noncomputable def beqQ (x : List AV) : List AV → Bool := AV.rec_1 (motive_1 := fun _ => AV → Bool) (motive_2 := fun _ => List AV → Bool)
  (fun b y => match y with | .bool c => bB b c | _ => false)
  (fun k n y => match y with | .int k' n' => bif Nat.beq (kno k) (kno k') then eqI n n' else false | _ => false)
  (fun l y => match y with | .str l' => beqN l l' | _ => false)
  (fun a b y => match y with | .ptr c d => bif Nat.beq a c then Nat.beq b d else false | _ => false)
  (fun y => match y with | .nilptr => true | _ => false)
  (fun a b c d y => match y with | .sl e f g h => bif Nat.beq a e then bif Nat.beq b f then bif Nat.beq c g then Nat.beq d h else false else false else false | _ => false)
  (fun a b c d y => match y with | .so e f g h => bif Nat.beq a e then bif Nat.beq b f then bif Nat.beq c g then Nat.beq d h else false else false else false | _ => false)
  (fun y => match y with | .nilsl => true | _ => false)
  (fun f _ ih y => match y with | .fn g cs => bif Nat.beq f g then ih cs else false | _ => false)
  (fun _ ih y => match y with | .agg l => ih l | _ => false)
  (fun _ ih y => match y with | .tup l => ih l | _ => false)
  (fun y => match y with | .undef => true | _ => false)
  (fun y => List.casesOn y true fun _ _ => false)
  (fun _ _ ih1 ih2 y => List.casesOn y false fun b r => bif ih1 b then ih2 r else false) x

mutual
theorem beqV_of : ∀ (x y : AV), beqV x y = true → x = y
  | .bool b, y, h => by
    cases y with
    | bool c => rw [bB_eq (show bB b c = true from h)]
    | _ => cases h
  | .int k n, y, h => by
    cases y with
    | int k' n' =>
      obtain ⟨h1, h2⟩ := bif2 (show (bif Nat.beq (kno k) (kno k') then eqI n n' else false) = true from h)
      rw [kno_inj h1, eqI_of h2]
    | _ => cases h
  | .str l, y, h => by
    cases y with
    | str l' => rw [beqN_of (show beqN l l' = true from h)]
    | _ => cases h
  | .ptr a b, y, h => by
    cases y with
    | ptr c d =>
      obtain ⟨h1, h2⟩ := bif2 (show (bif Nat.beq a c then Nat.beq b d else false) = true from h)
      rw [nbeq_iff.1 h1, nbeq_iff.1 h2]
    | _ => cases h
  | .nilptr, y, h => by
    cases y with
    | nilptr => rfl
    | _ => cases h
  | .sl a b c d, y, h => by
    cases y with
    | sl e f g i =>
      obtain ⟨h1, h⟩ := bif2 (show (bif Nat.beq a e then bif Nat.beq b f then bif Nat.beq c g then Nat.beq d i else false else false else false) = true from h)
      obtain ⟨h2, h⟩ := bif2 h
      obtain ⟨h3, h4⟩ := bif2 h
      rw [nbeq_iff.1 h1, nbeq_iff.1 h2, nbeq_iff.1 h3, nbeq_iff.1 h4]
    | _ => cases h
  | .so a b c d, y, h => by
    cases y with
    | so e f g i =>
      obtain ⟨h1, h⟩ := bif2 (show (bif Nat.beq a e then bif Nat.beq b f then bif Nat.beq c g then Nat.beq d i else false else false else false) = true from h)
      obtain ⟨h2, h⟩ := bif2 h
      obtain ⟨h3, h4⟩ := bif2 h
      rw [nbeq_iff.1 h1, nbeq_iff.1 h2, nbeq_iff.1 h3, nbeq_iff.1 h4]
    | _ => cases h
  | .nilsl, y, h => by
    cases y with
    | nilsl => rfl
    | _ => cases h
  | .fn f l, y, h => by
    cases y with
    | fn g l' =>
      obtain ⟨h1, h2⟩ := bif2 (show (bif Nat.beq f g then beqQ l l' else false) = true from h)
      rw [nbeq_iff.1 h1, beqQ_of l l' h2]
    | _ => cases h
  | .agg l, y, h => by
    cases y with
    | agg l' => rw [beqQ_of l l' h]
    | _ => cases h
  | .tup l, y, h => by
    cases y with
    | tup l' => rw [beqQ_of l l' h]
    | _ => cases h
  | .undef, y, h => by
    cases y with
    | undef => rfl
    | _ => cases h
theorem beqQ_of : ∀ (x y : List AV), beqQ x y = true → x = y
  | [], y, h => by
    cases y with
    | nil => rfl
    | cons b r => cases h
  | a :: x, y, h => by
    cases y with
    | nil => cases h
    | cons b r =>
      obtain ⟨h1, h2⟩ := bif2 (show (bif beqV a b then beqQ x r else false) = true from h)
      rw [beqV_of a b h1, beqQ_of x r h2]
end
theorem beqL_of : ∀ (x y : List AV), beqL x y = true → x = y
  | [], y, h => by
    cases y with
    | nil => rfl
    | cons b r => cases h
  | a :: x, y, h => by
    cases y with
    | nil => cases h
    | cons b r =>
      obtain ⟨h1, h2⟩ := bif2 (show (bif beqV a b then beqL x r else false) = true from h)
      rw [beqV_of a b h1, beqL_of x r h2]
theorem beqH_of : ∀ (x y : Heap), beqH x y = true → x = y
  | [], y, h => by
    cases y with
    | nil => rfl
    | cons b r => cases h
  | a :: x, y, h => by
    cases y with
    | nil => cases h
    | cons b r =>
      obtain ⟨h1, h⟩ := bif2 (show (bif Nat.beq a.1 b.1 then bif beqL a.2 b.2 then beqH x r else false else false) = true from h)
      obtain ⟨h2, h3⟩ := bif2 h
      have e : a = b := Prod.ext (nbeq_iff.1 h1) (beqL_of _ _ h2)
      rw [e, beqH_of x r h3]
theorem beqS_of {a b : St} (h : beqS a b = true) : a = b := by
  obtain ⟨h1, h⟩ := bif2 (show (bif Nat.beq a.nxt b.nxt then bif beqN a.wd b.wd then beqH a.heap b.heap else false else false) = true from h)
  obtain ⟨h2, h3⟩ := bif2 h
  cases a; cases b
  simp only at h1 h2 h3
  rw [nbeq_iff.1 h1, beqN_of h2, beqH_of _ _ h3]
theorem beqR_of {a b : RF} (h : beqR a b = true) : a = b := by
  cases a with
  | no => cases h
  | ok v s w =>
    cases b with
    | no => cases h
    | ok v' s' w' =>
      obtain ⟨h1, h⟩ := bif2 (show (bif beqV v v' then bif beqN w w' then beqS s s' else false else false) = true from h)
      obtain ⟨h2, h3⟩ := bif2 h
      rw [beqV_of _ _ h1, beqN_of h2, beqS_of h3]

/-! ### A call that was reckoned once -/
noncomputable def oNo : FT := fun _ _ _ => .no
noncomputable def memo (A : List AV) (S : St) (r : RF) (o : FT) : FT := fun f args s => bif Nat.beq s.nxt S.nxt then (bif beqL args A then (bif beqS s S then r else o f args s) else o f args s) else o f args s

section
variable {P : Program}
theorem OracOk.of {f : Nat} {o : FT} (h : ∀ args s v s' W, o f args s = .ok v s' W → OKs s → StOk s s' W ∧ (∃ fn, Enters P f fn) ∧
    ∀ B m K h w vs, VRL m K vs args → HR B m K h w → Sub s h → Fr K s.nxt s'.nxt → Calls P f ⟨vs⟩ w (RetOk B m K h w s.nxt W s' v)) : OracOk P f o := by
  intro g args s v s' W hr ok
  have hr' : (bif Nat.beq g f then o f args s else .no) = RF.ok v s' W := hr
  cases hg : Nat.beq g f with
  | false => rw [hg] at hr'; cases hr'
  | true =>
    rw [hg] at hr'
    obtain rfl := nbeq_iff.1 hg
    exact h args s v s' W hr' ok
theorem OracOk.out {f : Nat} {o : FT} (h : OracOk P f o) {args : List AV} {s : St} {v : AV} {s' : St} {W : List Nat} (hr : o f args s = .ok v s' W) (ok : OKs s) : StOk s s' W ∧ (∃ fn, Enters P f fn) ∧
    ∀ B m K h w vs, VRL m K vs args → HR B m K h w → Sub s h → Fr K s.nxt s'.nxt → Calls P f ⟨vs⟩ w (RetOk B m K h w s.nxt W s' v) :=
  h f args s v s' W (by show (bif Nat.beq f f then o f args s else .no) = _; rw [nbeq_self]; exact hr) ok

theorem oNo_ok (f : Nat) : OracOk P f oNo := OracOk.of fun _ _ _ _ _ h => by cases h
theorem OracOk.call {call : FT} (hc : CallOk P call) (f : Nat) : OracOk P f call := OracOk.of fun args s v s' W hr ok => hc f args s v s' W hr ok
theorem memo_ok {call : FT} (hc : CallOk P call) {f : Nat} {A : List AV} {S : St} {r : RF} (h : call f A S = r) {o : FT} (ho : OracOk P f o) : OracOk P f (memo A S r o) := by
  refine OracOk.of fun args s v s' W hr ok => ?_
  have hr' : (bif Nat.beq s.nxt S.nxt then (bif beqL args A then (bif beqS s S then r else o f args s) else o f args s) else o f args s) = .ok v s' W := hr
  cases hn : Nat.beq s.nxt S.nxt with
  | false => rw [hn] at hr'; exact ho.out hr' ok
  | true =>
    rw [hn] at hr'
    simp only [cond_true] at hr'
    cases ha : beqL args A with
    | false => rw [ha] at hr'; exact ho.out hr' ok
    | true =>
      rw [ha] at hr'
      simp only [cond_true] at hr'
      cases hs : beqS s S with
      | false => rw [hs] at hr'; exact ho.out hr' ok
      | true =>
        rw [hs] at hr'
        simp only [cond_true] at hr'
        obtain rfl := beqL_of _ _ ha
        obtain rfl := beqS_of hs
        exact hc f args s v s' W (h.trans hr') ok

/-! ### A contract whose world is as it was below its end -/
theorem Keeps.below {w w' : World} (h : Below w.heap.size w w') : Keeps w w' := ⟨h.size, fun _ ha => h.cell ha, fun _ ha => h.frozen ha⟩
theorem RetOk.same {B : Nat} {m : LM} {K : Nat → Prop} {h : HF} {w w' : World} {s : St} {v : AV} {u : Value} (hr : HR B m K h w) (hs : Sub s h) (hv : VR m K u v) (hb : Below w.heap.size w w') : RetOk B m K h w s.nxt [] s v (.returned u) w' :=
  ⟨m, h, hv.mono Kx.le (fun _ _ => rfl), ⟨Nat.le_refl _, fun _ _ => rfl, (hr.keeps (.below hb)).weak Kx.le, fun _ _ _ => rfl, fun _ _ => rfl, hb.mono hr.big⟩, hs⟩
theorem StOk.same {s : St} (ok : OKs s) : StOk s s [] := ⟨ok, Nat.le_refl _, rfl, fun _ _ _ _ h => h⟩

/-! ### The closed run -/
noncomputable def s0 : St := ⟨[], 0, []⟩
theorem closed {call : FT} (hc : CallOk P call) {f : Nat} {b : Bool} (h : ∃ s' W, call f [] s0 = .ok (.bool b) s' W) (w : World) :
    Calls P f #[] w fun e w' => e = .returned (.bool b) ∧ Below w.heap.size w w' := by
  obtain ⟨s', W, h⟩ := h
  obtain ⟨h1, h2, h3⟩ := hc f [] s0 _ s' W h ⟨.nil, fun p hp => by cases hp⟩
  refine (h3 w.heap.size (fun _ => ⟨0, 0, 0⟩) (fun _ => False) (fun _ => none) w [] .nil ⟨Nat.le_refl _, (fun _ _ h => by cases h), (fun _ _ h => by cases h), (fun _ _ _ _ h => by cases h)⟩ (fun id c h => by cases h) (fun _ _ _ h => h)).mono ?_
  intro e w' he
  cases e with
  | returned u =>
    obtain ⟨m', h', hv, hp, _⟩ := he
    cases hv
    exact ⟨rfl, hp.below⟩
  | _ => cases he
noncomputable def isTrue (r : RF) : Bool := RF.casesOn r false fun v _ _ => match v with | .bool b => b | _ => false
theorem isTrue_of {r : RF} (h : isTrue r = true) : ∃ s' W, r = .ok (.bool true) s' W := by
  cases r with
  | no => cases h
  | ok v s' W =>
    cases v with
    | bool b => cases b with
      | true => exact ⟨s', W, rfl⟩
      | false => cases h
    | _ => cases h
end
/-- So many noughts. -/
noncomputable def zs (n : Nat) : List Nat := Nat.rec (motive := fun _ => List Nat) [] (fun _ ih => 0 :: ih) n
end Go.Pal
