/-
  Cutting slices and texts; writing: store, append, copy, clear.
-/
import Derived.Test.YtmomgakmgafdeaaGreatDoorPalMem2
import Derived.Laws.Slices
namespace Go.Pal
open Go.RowKit

/-- An operand that may be none. -/
inductive OptR (m : LM) (K : Nat → Prop) (fr : Tr) (L : List AV) : Option Value → Option X → Prop where
  | none : OptR m K fr L none none
  | some {v : Value} {x : X} (h : VR m K v (rd x fr L)) : OptR m K fr L (some v) (some x)

def BoundIs (o : Option Value) (d n : Nat) : Prop := (o = none ∧ n = d) ∨ ∃ k, o = some (.int k (Int.ofNat n))

theorem onNat_vr {m : LM} {K : Nat → Prop} {v : Value} {a : AV} (hv : VR m K v a) {f : Nat → R} {r : R} (h : onNat a f = r) (hr : r ≠ .no) : ∃ k n, v = .int k (Int.ofNat n) ∧ f n = r := by
  obtain ⟨k, n, rfl, h1⟩ := onNat_of h hr
  cases hv
  exact ⟨k, n, rfl, h1⟩
theorem optN_of {m : LM} {K : Nat → Prop} {fr : Tr} {L : List AV} {o : Option Value} {x : Option X} (ho : OptR m K fr L o x) {d : Nat} {f : Nat → R} {r : R} (h : optN fr L x d f = r) (hr : r ≠ .no) : ∃ n, BoundIs o d n ∧ f n = r := by
  cases ho with
  | none => exact ⟨d, .inl ⟨rfl, rfl⟩, h⟩
  | some hv =>
    obtain ⟨k, n, rfl, h1⟩ := onNat_vr hv h hr
    exact ⟨n, .inr ⟨k, rfl⟩, h1⟩

section
variable (fr : Tr) (L : List AV) (s : St) (esz : Nat) (lo hi : Option X)
theorem slcR_str (l : List Nat) : slcR fr L s 0 (.str l) lo hi none = optN fr L hi (lenN l) fun h => optN fr L lo 0 fun w => bif Nat.ble h (lenN l) && Nat.ble w h then .val (.str (takeN (dropN l w) (h - w))) s else .no := rfl
theorem slcR_nil : slcR fr L s esz .nilsl lo hi none = bif Nat.beq esz 0 then .no else optN fr L hi 0 fun h => optN fr L lo 0 fun w => bif Nat.beq h 0 && Nat.beq w 0 then .val .nilsl s else .no := rfl
theorem slcR_sl (mx : Option X) (id off len cap : Nat) : slcR fr L s esz (.sl id off len cap) lo hi mx = bif Nat.beq esz 0 then .no else optN fr L mx cap fun m => optN fr L hi len fun h => optN fr L lo 0 fun w => bif Nat.ble m cap && Nat.ble h m && Nat.ble w h && (Option.casesOn hi (Option.casesOn mx true fun _ => false) fun _ => true) then .val (.sl id (bif Nat.beq m w then off else off + w * esz) (h - w) (m - w)) s else .no := rfl
theorem slcR_so (mx : Option X) (id off len e : Nat) : slcR fr L s esz (.so id off len e) lo hi mx = orNo (get s.heap id) fun c => bif Nat.beq e esz then Option.casesOn (motive := fun _ => R) mx
      (optN fr L hi len fun h => optN fr L lo 0 fun w => bif Nat.ble (off + h * esz) (lenA c) && Nat.ble w h && (Nat.beq w 0 || Nat.blt (off + w * esz) (lenA c)) then .val (.so id (off + w * esz) (h - w) e) s else .no)
      (fun x => onNat (rd x fr L) fun m => Option.casesOn (motive := fun _ => R) hi .no fun y => onNat (rd y fr L) fun h => optN fr L lo 0 fun w => bif Nat.ble (off + m * esz) (lenA c) && Nat.ble h m && Nat.ble w h then .val (.sl id (bif Nat.beq m w then off else off + w * esz) (h - w) (m - w)) s else .no) else .no := rfl
end

section
variable {P : Program} {B : Nat} {m : LM} {K : Nat → Prop} {h : HF} {w : World} {t e : TypeId} {te ti : TI}

theorem bounds_run (isS : Bool) {len cap : Nat} {lo hi mx : Option Value} {a b c : Nat} (ha : BoundIs lo 0 a) (hb : BoundIs hi len b) (hc : BoundIs mx cap c) (h1 : c ≤ cap) (h2 : b ≤ c) (h3 : a ≤ b) (hno : hi = none → mx = none) :
    (Instr.sliceBounds isS len cap lo hi mx).run P w = .ok (a, b, c) w := by
  have q : ∀ (k : IntKind) (i y : Nat) (code : BoundsCode), i ≤ y → (Instr.sliceBound (.int k (Int.ofNat i)) y code).run P w = .ok i w := fun k i y code hi => by
    have := run_sliceBound (P := P) w k (Int.ofNat i) y code (by simp) (by have e : Int.ofNat i = (i : Int) := rfl; rw [e]; omega)
    exact this
  rcases hc with ⟨rfl, rfl⟩ | ⟨k3, rfl⟩
  · rcases hb with ⟨rfl, rfl⟩ | ⟨k2, rfl⟩ <;> rcases ha with ⟨rfl, rfl⟩ | ⟨k1, rfl⟩ <;>
      simp only [Instr.sliceBounds, Sem.run_bind, Sem.run_pure, Result.andThen_ok, q _ _ _ _ h2, q _ _ _ _ h3]
  · rcases hb with ⟨rfl, rfl⟩ | ⟨k2, rfl⟩
    · cases hno rfl
    · rcases ha with ⟨rfl, rfl⟩ | ⟨k1, rfl⟩ <;>
      simp only [Instr.sliceBounds, Sem.run_bind, Sem.run_pure, Result.andThen_ok, q _ _ _ _ h1, q _ _ _ _ h2, q _ _ _ _ h3]

theorem slice_str (w : World) (hu : P.underlying t = some .string) {str : ByteArray} {lo hi : Option Value} {a b : Nat} (ha : BoundIs lo 0 a) (hb : BoundIs hi str.size b) (h2 : b ≤ str.size) (h3 : a ≤ b) :
    (Instr.sliceAt t (.string str) lo hi none).run P w = .ok (.string (str.extract a b)) w := by
  have := bounds_run (P := P) (w := w) false (len := str.size) (cap := str.size) (mx := none) ha hb (.inl ⟨rfl, rfl⟩) (Nat.le_refl _) h2 h3 (fun _ => rfl)
  simp only [Instr.sliceAt, Sem.run_bind, run_underlying hu, Result.andThen_ok, Instr.slice, Option.isSome_none, Bool.false_eq_true, if_false, Sem.run_pure, this]
theorem slice_row (w : World) (hu : P.underlying t = some (.slice e)) {i : TypeInfo} (hi : P.info? e = some i) {ad : Option Addr} {len cap : Nat} {lo hh mx : Option Value} {a b c : Nat} (ha : BoundIs lo 0 a) (hb : BoundIs hh len b) (hc : BoundIs mx cap c) (h1 : c ≤ cap) (h2 : b ≤ c) (h3 : a ≤ b) (hno : hh = none → mx = none) :
    (Instr.sliceAt t (.slice ad len cap) lo hh mx).run P w = .ok (.slice (if c = a then ad else ad.map (·.add (a * i.size))) (b - a) (c - a)) w := by
  have := bounds_run (P := P) (w := w) true (len := len) (cap := cap) ha hb hc h1 h2 h3 hno
  simp only [Instr.sliceAt, Sem.run_bind, run_underlying hu, Result.andThen_ok, Instr.slice, this, sizeOf_run e hi, Sem.run_pure]

theorem slc_str (hu : P.underlying t = some .string) (fr : Tr) (L : List AV) {u : Value} {l : List Nat} (hv : VR m K u (.str l)) {lo hi : Option Value} {xl xh xm : Option X} (hl : OptR m K fr L lo xl) (hh : OptR m K fr L hi xh) {mx : Option Value} (hm : OptR m K fr L mx xm)
    {s s' : St} {v : AV} (hr : slcR fr L s 0 (.str l) xl xh xm = .val v s') : s' = s ∧ Here P w (Instr.sliceAt t u lo hi mx) m K v := by
  cases hm with
  | some _ => cases hr
  | none =>
    rw [slcR_str] at hr
    obtain ⟨b, hb, hr1⟩ := optN_of hh hr (by simp)
    obtain ⟨a, ha, hr2⟩ := optN_of hl hr1 (by simp)
    obtain ⟨hc, hr3⟩ := cond_of hr2 (by simp)
    obtain ⟨c1, c2⟩ := and3 hc
    have c1 := nble_iff.1 c1
    have c2 := nble_iff.1 c2
    cases hr3
    cases hv
    rename_i str hl'
    have hlen : lenN l = str.size := by rw [lenN_eq, ← hl', List.length_map, Array.length_toList]; rfl
    rw [hlen] at hb c1
    refine ⟨rfl, .string (str.extract a b), slice_str w hu ha hb c1 c2, .str _ _ ?_⟩
    rw [takeN_eq, dropN_eq, ← hl', ← List.map_drop, ← List.map_take]
    congr 1
    rw [ByteArray.data_extract, Array.toList_extract]

theorem slc_row (hu : P.underlying t = some (.slice e)) (hE : TIr P e te) (hpos : 0 < te.size) (fr : Tr) (L : List AV) {u : Value} {x : AV} (hv : VR m K u x) (x0 : HR B m K h w) {lo hi : Option Value} {xl xh xm : Option X} (hl : OptR m K fr L lo xl) (hh : OptR m K fr L hi xh) {mx : Option Value} (hm : OptR m K fr L mx xm)
    {s s' : St} (hsub : ∀ id ∈ idOf x [], ∀ c, get s.heap id = some c → h id = some c) {v : AV} (hr : slcR fr L s te.size x xl xh xm = .val v s') : s' = s ∧ Here P w (Instr.sliceAt t u lo hi mx) m K v := by
  obtain ⟨i, hi', hsz, _, _⟩ := hE.info
  have hne : Nat.beq te.size 0 = false := nbeq_ne (by omega)
  cases hv with
  | str s l hl =>
    have hr' : (bif Nat.beq te.size 0 then _ else R.no) = _ := hr
    have : Nat.beq te.size 0 = false := nbeq_ne (by omega)
    rw [this] at hr'
    cases hr'
  | nilsl =>
    cases hm with
    | some _ =>
      have hr' : (bif Nat.beq te.size 0 then R.no else R.no) = _ := hr
      rw [hne] at hr'; cases hr'
    | none =>
      rw [slcR_nil, hne, cond_false] at hr
      obtain ⟨b, hb, hr1⟩ := optN_of hh hr (by simp)
      obtain ⟨a, ha, hr2⟩ := optN_of hl hr1 (by simp)
      obtain ⟨hc, hr3⟩ := cond_of hr2 (by simp)
      obtain ⟨c1, c2⟩ := and3 hc
      have c1 := nbeq_iff.1 c1
      have c2 := nbeq_iff.1 c2
      subst c1; subst c2
      cases hr3
      refine ⟨rfl, .slice none 0 0, ?_, .nilsl⟩
      have := slice_row (P := P) w hu hi' (ad := none) (len := 0) (cap := 0) (mx := none) ha hb (.inl ⟨rfl, rfl⟩) (Nat.le_refl _) (Nat.le_refl _) (Nat.le_refl _) (fun _ => rfl)
      simpa using this
  | sl id off len cap hid =>
    rw [slcR_sl, hne, cond_false] at hr
    obtain ⟨c, hc, hr1⟩ := optN_of hm hr (by simp)
    obtain ⟨b, hb, hr2⟩ := optN_of hh hr1 (by simp)
    obtain ⟨a, ha, hr3⟩ := optN_of hl hr2 (by simp)
    obtain ⟨hcc, hr4⟩ := cond_of hr3 (by simp)
    cases hr4
    obtain ⟨hcc, q4⟩ := and3 hcc
    obtain ⟨hcc, q3⟩ := and3 hcc
    obtain ⟨q1, q2⟩ := and3 hcc
    have q1 := nble_iff.1 q1; have q2 := nble_iff.1 q2; have q3 := nble_iff.1 q3
    have hno : hi = none → mx = none := by
      intro e0
      subst e0
      cases hh
      cases hm with
      | none => rfl
      | some _ => cases q4
    refine ⟨rfl, _, slice_row (P := P) w hu hi' ha hb hc q1 q2 q3 hno, ?_⟩
    rw [hsz]
    by_cases e0 : c = a
    · subst e0
      simp only [if_true, nbeq_self, cond_true]
      exact .sl id off _ _ hid
    · rw [if_neg e0, nbeq_ne e0]
      simp only [Option.map_some, Addr.add_lit, cond_false, Nat.add_assoc]
      exact .sl id (off + a * te.size) _ _ hid
  | so id off len esz cap hid hz ht =>
    rw [slcR_so] at hr
    obtain ⟨c0, hc0, hr1⟩ := orNo_of hr (by simp)
    obtain ⟨he, hr2⟩ := cond_of hr1 (by simp)
    have he := nbeq_iff.1 he
    subst he
    have o := x0.obj id c0 (hsub id List.mem_cons_self c0 hc0)
    have hf := o.fits
    have le_of : ∀ n, off + n * te.size ≤ lenA c0 → n ≤ cap := fun n hn => by
      rw [lenA_eq] at hn
      have : n * te.size ≤ cap * te.size := by omega
      exact Nat.le_of_mul_le_mul_right this hpos
    cases hm with
    | none =>
      obtain ⟨b, hb, hr3⟩ := optN_of hh hr2 (by simp)
      obtain ⟨a, ha, hr4⟩ := optN_of hl hr3 (by simp)
      obtain ⟨hcc, hr5⟩ := cond_of hr4 (by simp)
      cases hr5
      obtain ⟨hcc, q3⟩ := and3 hcc
      obtain ⟨q1, q2⟩ := and3 hcc
      have q1 := nble_iff.1 q1; have q2 := nble_iff.1 q2
      have hbc := le_of b q1
      refine ⟨rfl, _, slice_row (P := P) w hu hi' (mx := none) ha hb (.inl ⟨rfl, rfl⟩) (Nat.le_refl _) hbc q2 (fun _ => rfl), ?_⟩
      rw [hsz]
      have key : VR m K (.slice (some ⟨(m id).blk, (m id).base + (off + a * te.size), none⟩) (b - a) (cap - a)) (.so id (off + a * te.size) (b - a) te.size) := by
        refine .so id _ _ _ _ hid hpos ?_
        have e1 : a * te.size + (cap - a) * te.size = cap * te.size := by rw [← Nat.add_mul]; congr 1; omega
        omega
      by_cases e0 : cap = a
      · subst e0
        have : cap = 0 := by
          rw [Bool.or_eq_true] at q3
          rcases q3 with q3 | q3
          · exact nbeq_iff.1 q3
          · have := nblt_iff.1 q3
            rw [lenA_eq] at this
            omega
        subst this
        simpa using key
      · rw [if_neg e0]
        simp only [Option.map_some, Addr.add_lit, Nat.add_assoc]
        exact key
    | some hx =>
      obtain ⟨kc, c, rfl, hr3⟩ := onNat_vr hx hr2 (by simp)
      cases hh with
      | none => cases hr3
      | some hy =>
        obtain ⟨kb, b, rfl, hr4⟩ := onNat_vr hy hr3 (by simp)
        obtain ⟨a, ha, hr5⟩ := optN_of hl hr4 (by simp)
        obtain ⟨hcc, hr6⟩ := cond_of hr5 (by simp)
        cases hr6
        obtain ⟨hcc, q3⟩ := and3 hcc
        obtain ⟨q1, q2⟩ := and3 hcc
        have q1 := nble_iff.1 q1; have q2 := nble_iff.1 q2; have q3 := nble_iff.1 q3
        have hcc := le_of c q1
        refine ⟨rfl, _, slice_row (P := P) w hu hi' ha (.inr ⟨kb, rfl⟩) (.inr ⟨kc, rfl⟩) hcc q2 q3 (fun hh => by cases hh), ?_⟩
        rw [hsz]
        by_cases e0 : c = a
        · subst e0
          simp only [if_true, nbeq_self, cond_true]
          exact .sl id off _ _ hid
        · rw [if_neg e0, nbeq_ne e0]
          simp only [Option.map_some, Addr.add_lit, cond_false, Nat.add_assoc]
          exact .sl id (off + a * te.size) _ _ hid
  | _ => cases hr

/-! ### Writing -/
/-- What comes of an operation that writes (or calls): from the objects below a to those below b. -/
def Effs (P : Program) (B : Nat) (w : World) (x : Sem Value) (m : LM) (K : Nat → Prop) (h : HF) (a b : Nat) (W : List Nat) (s' : St) (v : AV) : Prop :=
  ∃ u w' m' h', x.run P w = .ok u w' ∧ VR m' (Kx K a b) u v ∧ Pst B a b W m K h w m' h' w' ∧ Sub s' h'

theorem sub_put {s : St} {id : Nat} {c c' : List AV} (hs : Sub s h) (hg : get s.heap id = some c) : Sub (wrO s id c') (updF h id (some c')) := by
  intro j d hd
  change get (put s.heap id c') j = some d at hd
  rw [get_put] at hd
  by_cases e : j = id
  · subst e
    simp [hg] at hd
    subst hd
    rw [updF_same]
  · rw [if_neg e] at hd
    rw [updF_ne _ _ e]
    exact hs j d hd

theorem run_store_at (hT : TIr P t ti) (x : HR B m K h w) {id off : Nat} {c c' vs : List AV} {u : Value} {us : List Value} (hus : u.cells.toList = us) (hc : h id = some c) (hset : setC c vs off = some c') (hv : VRL m K us vs) (hone : allOne vs = true) (hl : vs.length = ti.size) :
    (storeVar t ⟨(m id).blk, (m id).base + off, none⟩ u).run P w = .ok () (w.setCells (m id).blk ((m id).base + off) us) := by
  obtain ⟨i, hi, hsz, _, _⟩ := hT.info
  obtain ⟨r1, r2⟩ := x.room hc hset hv
  have hst := run_storeCells_cells (P := P) (m id).blk ((m id).base + off) us 0 w (by simpa using r1) (by simpa using r2) (hv.oneCells hone)
  simp only [Nat.add_zero] at hst
  have e : u.cells.size = ti.size := by rw [← hl, ← hv.length, ← hus, Array.length_toList]
  simp only [storeVar, Sem.run_bind, sizeOf_run t hi, Result.andThen_ok, e, hsz, ne_eq, not_true_eq_false, if_false, hus, hst]

theorem store_ok (hT : TIr P t ti) (x : HR B m K h w) {s s' : St} (hs : Sub s h) (ok : OKs s) {u v : Value} {a b : AV} (hu : VR m K u a) (hv : VR m K v b) {r : AV} {W : List Nat} (hr : storeR s a b ti.size = .eff r s' W) :
    r = .undef ∧ s'.nxt = s.nxt ∧ ∃ w' m' h', (Instr.storeAt t u v).run P w = .ok () w' ∧ Pst B s.nxt s.nxt W m K h w m' h' w' ∧ Sub s' h' := by
  cases hu <;> first | (cases hr; done) | skip
  rename_i id off hid
  obtain ⟨c, hc, hr1⟩ := orNo_of (show orNo (get s.heap id) _ = _ from hr) (by simp)
  obtain ⟨vs, hvs, hr2⟩ := orNo_of hr1 (by simp)
  obtain ⟨hb, hr3⟩ := cond_of hr2 (by simp)
  obtain ⟨c', hset, hr4⟩ := orNo_of hr3 (by simp)
  cases hr4
  obtain ⟨b1, hone⟩ := and3 hb
  have b1 := nbeq_iff.1 b1
  rw [lenA_eq] at b1
  have hvl := hv.cells hvs
  have hh := hs id c hc
  refine ⟨rfl, rfl, _, m, _, ?_, x.writeP hh (ok.getLt hc) hset hvl hone, sub_put hs hc⟩
  simp only [Instr.storeAt, Instr.sureAddr, Sem.run_bind, Sem.run_pure, Result.andThen_ok]
  exact run_store_at hT x rfl hh hset hvl hone b1
end
end Go.Pal
