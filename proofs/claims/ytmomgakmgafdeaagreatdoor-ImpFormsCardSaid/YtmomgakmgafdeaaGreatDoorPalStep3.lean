/-
  The operations that come to a value.
-/
import Derived.Test.YtmomgakmgafdeaaGreatDoorPalStep2
namespace Go.Pal
open Go.RowKit

theorem bif_some {α : Type} {c : Bool} {a : Option α} {i : α} (h : (bif c then a else none) = some i) : c = true ∧ a = some i := by
  cases c with
  | true => exact ⟨rfl, h⟩
  | false => cases h
theorem map_some' {α β : Type} {a : Option α} {f : α → β} {b : β} (h : a.map f = some b) : ∃ x, a = some x ∧ b = f x := by
  cases a with
  | none => cases h
  | some x => exact ⟨x, rfl, (Option.some.inj h).symm⟩
theorem orb {a b : Bool} (h : (a || b) = true) : a = true ∨ b = true := by simpa using h
theorem beqtk {a b : Nat} (h : Nat.beq a b = true) : a = b := nbeq_iff.1 h

theorem neOf_spec {op : BinOp} {ne : Bool} (h : neOf op = some ne) : op = (if ne then .neq else .eql) := by
  cases op <;> cases h <;> rfl

theorem binR_ok {P : Program} {m : LM} {K : Nat → Prop} (t : TypeId) (x y : Operand) {op : BinOp} {o : B2} (hop : cOp op = some o) {u v : Value} {a b : AV} (hu : VR m K u a) (hv : VR m K v b) {s s' : St} {c : AV} (h : binR o a b s = .val c s') :
    s' = s ∧ Gives P (do eqGuard op t x y u v; binOp op t u v) m K c := by
  cases hu <;> first | (cases h; done) | skip
  · cases hv <;> first | (cases h; done) | skip
    exact binI_ok t x y hop _ _ _ _ h
  · cases hv <;> first | (cases h; done) | skip
    exact binS_ok t x y hop _ _ ‹_› ‹_› h

section
variable {P : Program} {B : Nat} {m : LM} {K : Nat → Prop} {h : HF} {w : World} {T : TT}

theorem ins_val (hT : ∀ t ti, T t = some ti → TIr P t ti) {ps : PS} {v : Env} {o : Oper} {i : I} (hi : cIns T ps v o.op = some i) {ρ : Operand → Value} {fr : Tr} {L : List AV} (hρ : EnvR ρ ps v m K fr L o.op.operands.toList)
    (x : HR B m K h w) {s s' : St} (hsub : ∀ id ∈ reads i fr L, ∀ c, get s.heap id = some c → h id = some c) {c : AV} (hk : i.kind = 0) (hr : step i fr L s = .val c s') : ValOk P B w (execOp ρ o) m K h s s' c := by
  obtain ⟨dst, op, type, pos, after, guard⟩ := o
  simp only at hi hρ
  cases op with
  | move a =>
    obtain ⟨y, hy, rfl⟩ := x1_spec hi
    cases hr
    exact .inl ⟨rfl, _, rfl, hρ a (by simp [Op.operands]) y hy⟩
  | assign a =>
    obtain ⟨y, hy, rfl⟩ := x1_spec hi
    cases hr
    exact .inl ⟨rfl, _, rfl, hρ a (by simp [Op.operands]) y hy⟩
  | pick a b d =>
    obtain ⟨y1, y2, y3, h1, h2, h3, rfl⟩ := x3_spec hi
    have g1 := hρ a (by simp [Op.operands]) y1 h1
    have g2 := hρ b (by simp [Op.operands]) y2 h2
    have g3 := hρ d (by simp [Op.operands]) y3 h3
    have hr' : pickR s (rd y1 fr L) (rd y2 fr L) (rd y3 fr L) = .val c s' := hr
    clear hr hsub
    revert hr'
    revert g1
    generalize rd y1 fr L = av
    generalize hx : ρ a = xa
    intro g1 hr'
    cases g1 <;> first | (cases hr'; done) | skip
    rename_i t
    cases t
    · cases hr'; exact .inl ⟨rfl, ρ d, by simp [execOp, asBool, hx], g3⟩
    · cases hr'; exact .inl ⟨rfl, ρ b, by simp [execOp, asBool, hx], g2⟩
  | alloc t =>
    simp only [cIns] at hi
    split at hi
    · rename_i ti hti
      split at hi
      · rename_i z hz
        cases hi
        obtain ⟨l, hl, hr1⟩ := orNo_of (show orNo (cellsV z) (fun c => newO s c fun id s => .val (.ptr id 0) s) = _ from hr) (by simp)
        obtain ⟨hone, hr2⟩ := newO_of hr1 (by simp)
        cases hr2
        exact .makes hone fun hk => alloc_ok x (hT t ti hti) hz hl hone hk
      · cases hi
    · cases hi
  | box t a =>
    obtain ⟨y, hy, rfl⟩ := x1_spec hi
    obtain ⟨l, hl, hr1⟩ := orNo_of (show orNo (cellsV (rd y fr L)) (fun c => newO s c fun id s => .val (.ptr id 0) s) = _ from hr) (by simp)
    obtain ⟨hone, hr2⟩ := newO_of hr1 (by simp)
    cases hr2
    exact .makes hone fun hk => box_ok x t (hρ a (by simp [Op.operands]) y hy) hl hone hk
  | build t parts =>
    simp only [cIns] at hi
    split at hi
    · rename_i ti hti
      split at hi
      · rename_i z hkk hz
        obtain ⟨qs, hq, rfl⟩ := map_some' hi
        obtain ⟨l, hl, hr1⟩ := orNo_of (show orNo (fill fr L qs (zcells (some z))) (fun c => .val (.agg c) s) = _ from hr) (by simp)
        cases hr1
        refine .gives ⟨rfl, build_ok (hT t ti hti) hz fr L (.inl ⟨hkk, ?_⟩) hl⟩
        have := cParts_spec (ρ := ρ) (m := m) (K := K) (fr := fr) (L := L) hq (fun y hy => hρ y (by simpa [Op.operands] using hy))
        simpa using this
      · rename_i n z hkk hz
        split at hi
        · rename_i te hte
          obtain ⟨qs, hq, rfl⟩ := map_some' hi
          obtain ⟨l, hl, hr1⟩ := orNo_of (show orNo (fill fr L qs (zcells (some z))) (fun c => .val (.agg c) s) = _ from hr) (by simp)
          cases hr1
          refine .gives ⟨rfl, build_ok (hT t ti hti) hz fr L (.inr ⟨n, te, hkk, hT _ _ hte, ?_⟩) hl⟩
          have := cParts_spec (ρ := ρ) (m := m) (K := K) (fr := fr) (L := L) hq (fun y hy => hρ y (by simpa [Op.operands] using hy))
          simpa using this
        · cases hi
      · cases hi
    · cases hi
  | buildSlice t n parts =>
    simp only [cIns] at hi
    split at hi
    · rename_i te hte
      obtain ⟨e, hE⟩ := elemT_spec hT hte
      obtain ⟨hb, hi⟩ := bif_some hi
      obtain ⟨qs, hq, rfl⟩ := map_some' hi
      obtain ⟨hz, hr0⟩ := cond_of (show (bif Nat.beq (lenA (zcells te.z)) te.size then orNo (fill fr L qs (rep n (zcells te.z))) (fun c => newO s c fun id s => .val (.sl id 0 n n) s) else .no) = _ from hr) (by simp)
      obtain ⟨l, hl, hr1⟩ := orNo_of hr0 (by simp)
      obtain ⟨hone, hr2⟩ := newO_of hr1 (by simp)
      cases hr2
      refine .makes hone fun hk => mks_ok x hE (nble_iff.1 hb) fr L ?_ hl hone hk
      have := cParts_spec (ρ := ρ) (m := m) (K := K) (fr := fr) (L := L) hq (fun y hy => hρ y (by simpa [Op.operands] using hy))
      simpa using this
    · cases hi
  | load t a =>
    simp only [cIns] at hi
    split at hi
    · rename_i ti hti
      obtain ⟨hb, hi⟩ := bif_some hi
      obtain ⟨y, hy, rfl⟩ := x1_spec hi
      have g := hρ a (by simp [Op.operands]) y hy
      have hr' : loadR s (rd y fr L) ti.size ti.agg = .val c s' := hr
      have hs' : ∀ id ∈ idOf (rd y fr L) [], ∀ c, get s.heap id = some c → h id = some c := hsub
      clear hr hsub
      revert hs' hr'
      revert g
      generalize rd y fr L = av
      generalize hx : ρ a = xa
      intro g hr' hs'
      cases g <;> first | (cases hr'; done) | skip
      rename_i id off hid
      obtain ⟨l0, hl0, hr1⟩ := orNo_of (show orNo (get s.heap id) (fun c => orNo (cellsAt c off ti.size) fun l => mkV ti.agg l s) = _ from hr') (by simp)
      obtain ⟨l, hl, hr2⟩ := orNo_of hr1 (by simp)
      obtain ⟨u, q1, q2⟩ := run_load' (P := P) x (hT t ti hti) (hs' id List.mem_cons_self l0 hl0) hl hr2
      obtain ⟨rfl, _⟩ := mkV_spec hr2
      exact .here ⟨u, by simp only [Instr.loadAt, hx, Instr.sureAddr, Sem.run_bind, Sem.run_pure, Result.andThen_ok]; exact q1, q2⟩
    · cases hi
  | store t a b =>
    simp only [cIns] at hi
    split at hi
    · obtain ⟨y1, y2, h1, h2, rfl⟩ := x2_spec hi
      cases hk
    · cases hi
  | nilCheck a =>
    obtain ⟨y, hy, rfl⟩ := x1_spec hi
    have g := hρ a (by simp [Op.operands]) y hy
    have hr' : nilcR s (rd y fr L) = .val c s' := hr
    clear hr hsub
    revert hr'
    revert g
    generalize rd y fr L = av
    generalize hx : ρ a = xa
    intro g hr'
    cases g <;> first | (cases hr'; done) | skip
    cases hr'
    exact .inl ⟨rfl, _, by simp only [execOp, hx, Sem.run_pure], .ptr _ _ ‹_›⟩
  | binOp op t a b ty =>
    simp only [cIns] at hi
    split at hi
    · rename_i o ti hop hti
      have key : ∀ {f : X → X → I}, x2 ps v a b f = some i → ∃ y1 y2, i = f y1 y2 ∧ VR m K (ρ a) (rd y1 fr L) ∧ VR m K (ρ b) (rd y2 fr L) := fun hf => by
        obtain ⟨y1, y2, h1, h2, rfl⟩ := x2_spec hf
        exact ⟨y1, y2, rfl, hρ a (by simp [Op.operands]) y1 h1, hρ b (by simp [Op.operands]) y2 h2⟩
      split at hi
      · obtain ⟨y1, y2, rfl, g1, g2⟩ := key hi
        exact .gives (binR_ok t a b hop g1 g2 hr)
      · obtain ⟨y1, y2, rfl, g1, g2⟩ := key hi
        exact .gives (binR_ok t a b hop g1 g2 hr)
      · split at hi
        · cases hi
        · rename_i ne hne
          have e := neOf_spec hne
          subst e
          split at hi
          · rename_i hk'
            obtain ⟨y1, y2, rfl, g1, g2⟩ := key hi
            exact .gives (eqb_ok (hT t ti hti) hk' a b ne g1 g2 hr)
          · rename_i hk'
            obtain ⟨y1, y2, rfl, g1, g2⟩ := key hi
            exact .gives (eqs_ok (hT t ti hti) hk' a b ne g1 g2 hr)
          · rename_i hk'
            obtain ⟨y1, y2, rfl, g1, g2⟩ := key hi
            exact .gives (eqp_ok (hT t ti hti) hk' a b ne g1 g2 hr)
          · rename_i hk'
            split at hi
            · rename_i sg hsg
              obtain ⟨y1, y2, rfl, g1, g2⟩ := key hi
              exact .gives (eqaR_ok (hT t ti hti) hsg (.inl hk') a b ne g1 g2 hr)
            · cases hi
          · rename_i n hk'
            split at hi
            · rename_i sg hsg
              obtain ⟨y1, y2, rfl, g1, g2⟩ := key hi
              exact .gives (eqaR_ok (hT t ti hti) hsg (.inr ⟨n, hk'⟩) a b ne g1 g2 hr)
            · cases hi
          · cases hi
    · cases hi
  | unOp op t a =>
    cases op <;> first | (cases hi; done) | skip
    obtain ⟨y, hy, rfl⟩ := x1_spec (show x1 ps v a .not = _ from hi)
    exact .gives (not_ok (hρ a (by simp [Op.operands]) y hy) hr)
  | convert t1 t2 a =>
    simp only [cIns] at hi
    split at hi
    · rename_i ta tb hta htb
      split at hi
      · rename_i k1 k2 hk1 hk2
        obtain ⟨y, hy, rfl⟩ := x1_spec hi
        exact .gives (conv_ok (hT _ _ hta) (hT _ _ htb) hk2 (hρ a (by simp [Op.operands]) y hy) hr)
      · rename_i hk1 hk2
        obtain ⟨y, hy, rfl⟩ := x1_spec hi
        have g := hρ a (by simp [Op.operands]) y hy
        have hr' : slcR fr L s 0 (rd y fr L) none none none = .val c s' := hr
        have hnz := hsub
        clear hr hsub
        revert hr'
        revert g
        generalize rd y fr L = av
        intro g hr'
        have key : ∃ l, av = .str l := by
          cases av <;> first | exact ⟨_, rfl⟩ | (cases hr'; done) | skip
          rename_i id off len esz
          exfalso
          generalize ρ a = xa at g
          cases g
          rename_i cap hid hz ht
          rw [slcR_so] at hr'
          obtain ⟨_, _, hr1⟩ := orNo_of hr' (by simp)
          obtain ⟨he, _⟩ := cond_of hr1 (by simp)
          have := nbeq_iff.1 he
          omega
        obtain ⟨l, rfl⟩ := key
        have e1 : (bif Nat.ble (lenN l) (lenN l) && Nat.ble 0 (lenN l) then R.val (.str (takeN (dropN l 0) (lenN l - 0))) s else .no) = .val c s' := hr'
        obtain ⟨_, e2⟩ := cond_of e1 (by simp)
        have e3 : takeN (dropN l 0) (lenN l - 0) = l := by rw [takeN_eq, dropN_eq, lenN_eq]; simp
        rw [e3] at e2
        cases e2
        exact .gives ⟨rfl, mov_string (hT _ _ hta) (hT _ _ htb) hk1 hk2 g ⟨l, rfl⟩⟩
      · rename_i hk1 hk2
        split at hi
        · rename_i te hte
          split at hi
          · rename_i hke
            obtain ⟨y, hy, rfl⟩ := x1_spec hi
            have g := hρ a (by simp [Op.operands]) y hy
            have hr' : s2bR s (rd y fr L) = .val c s' := hr
            clear hr hsub
            revert hr'
            revert g
            generalize rd y fr L = av
            intro g hr'
            cases av <;> first | (cases hr'; done) | skip
            rename_i l
            obtain ⟨hone, hr2⟩ := newO_of (show newO s (ofBytes l) (fun id s => .val (.so id 0 (lenN l) 1) s) = _ from hr') (by simp)
            cases hr2
            exact .makes hone fun hk => s2b_ok x ((hT _ _ hta).string hk1) ((hT _ _ htb).slice hk2) ((hT _ _ hte).int hke) g hk
          · cases hi
        · cases hi
      · rename_i hk1 hk2
        split at hi
        · rename_i te hte
          split at hi
          · rename_i hke
            obtain ⟨y, hy, rfl⟩ := x1_spec hi
            obtain ⟨rfl, hh⟩ := b2s_ok (P := P) x (s := s) (a := rd y fr L) hsub ((hT _ _ hta).slice hk1) ((hT _ _ htb).string hk2) ((hT _ _ hte).int hke) (hρ a (by simp [Op.operands]) y hy) hr
            exact .here hh
          · cases hi
        · cases hi
      · cases hi
    · cases hi
  | fieldAddr t a f =>
    simp only [cIns] at hi
    split at hi
    · rename_i ti hti
      split at hi
      · rename_i g hk1 hg
        obtain ⟨hb, hi⟩ := bif_some hi
        obtain ⟨y, hy, rfl⟩ := x1_spec hi
        exact .gives (fa_ok (hT t ti hti) hk1 hg (nblt_iff.1 hb) (hρ a (by simp [Op.operands]) y hy) hr)
      · cases hi
    · cases hi
  | field t a f =>
    simp only [cIns] at hi
    split at hi
    · rename_i ti hti
      split at hi
      · rename_i g hk1 hg
        obtain ⟨hb, hi⟩ := bif_some hi
        obtain ⟨y, hy, rfl⟩ := x1_spec hi
        exact .gives (fld_ok (hT t ti hti) hk1 hg (hρ a (by simp [Op.operands]) y hy) ((orb hb).imp id beqtk) hr)
      · cases hi
    · cases hi
  | indexAddr t a b =>
    simp only [cIns] at hi
    split at hi
    · rename_i ti hti
      split at hi
      · rename_i te hk1 hte
        obtain ⟨y1, y2, h1, h2, rfl⟩ := x2_spec hi
        exact .gives (ia_ok (hT t ti hti) hk1 (hT _ _ hte) (hρ a (by simp [Op.operands]) y1 h1) (hρ b (by simp [Op.operands]) y2 h2) hr)
      · rename_i n te hk1 hte
        obtain ⟨y1, y2, h1, h2, rfl⟩ := x2_spec hi
        exact .gives (iap_ok (hT t ti hti) hk1 (hT _ _ hte) (hρ a (by simp [Op.operands]) y1 h1) (hρ b (by simp [Op.operands]) y2 h2) hr)
      · cases hi
    · cases hi
  | index t a b =>
    simp only [cIns] at hi
    split at hi
    · rename_i ti hti
      split at hi
      · rename_i hk1
        obtain ⟨y1, y2, h1, h2, rfl⟩ := x2_spec hi
        exact .gives (idx_ok (hT t ti hti) hk1 (hρ a (by simp [Op.operands]) y1 h1) (hρ b (by simp [Op.operands]) y2 h2) hr)
      · rename_i n hk1
        split at hi
        · rename_i te hte
          obtain ⟨hb, hi⟩ := bif_some hi
          obtain ⟨y1, y2, h1, h2, rfl⟩ := x2_spec hi
          exact .gives (idxa_ok (hT t ti hti) hk1 (hT _ _ hte) (hρ a (by simp [Op.operands]) y1 h1) (hρ b (by simp [Op.operands]) y2 h2) hr)
        · cases hi
      · cases hi
    · cases hi
  | slice t a lo hi' mx =>
    simp only [cIns] at hi
    split at hi
    · rename_i ti hti
      split at hi
      · rename_i xa xl xh xm h1 h2 h3 h4
        have g1 := hρ a (by simp [Op.operands]) xa h1
        have g2 := cXo_spec (ρ := ρ) (m := m) (K := K) (fr := fr) (L := L) h2 (fun y hy => hρ y (by simp [Op.operands, hy]))
        have g3 := cXo_spec (ρ := ρ) (m := m) (K := K) (fr := fr) (L := L) h3 (fun y hy => hρ y (by simp [Op.operands, hy]))
        have g4 := cXo_spec (ρ := ρ) (m := m) (K := K) (fr := fr) (L := L) h4 (fun y hy => hρ y (by simp [Op.operands, hy]))
        split at hi
        · rename_i hk1
          cases hi
          have hr' : slcR fr L s 0 (rd xa fr L) xl xh xm = .val c s' := hr
          clear hr hsub
          revert hr'
          revert g1
          generalize rd xa fr L = av
          intro g1 hr'
          have key : ∃ l, av = .str l := by
            cases av <;> first | exact ⟨_, rfl⟩ | (cases hr'; done) | skip
            rename_i id off len esz
            exfalso
            generalize ρ a = xa at g1
            cases g1
            rename_i cap hid hz ht
            rw [slcR_so] at hr'
            obtain ⟨_, _, hr1⟩ := orNo_of hr' (by simp)
            obtain ⟨he, _⟩ := cond_of hr1 (by simp)
            have := nbeq_iff.1 he
            omega
          obtain ⟨l, rfl⟩ := key
          obtain ⟨rfl, hh⟩ := slc_str (P := P) (w := w) ((hT t ti hti).string hk1) fr L g1 g2 g3 g4 hr'
          exact .here hh
        · rename_i hk1
          split at hi
          · rename_i te hte
            obtain ⟨hb, hi⟩ := bif_some hi
            cases hi
            have hr' : slcR fr L s te.size (rd xa fr L) xl xh xm = .val c s' := hr
            obtain ⟨rfl, hh⟩ := slc_row (P := P) ((hT t ti hti).slice hk1) (hT _ _ hte) (nblt_iff.1 hb) fr L g1 x g2 g3 g4 hsub hr'
            exact .here hh
          · cases hi
        · cases hi
      · cases hi
    · cases hi
  | makeSlice t a b =>
    simp only [cIns] at hi
    split at hi
    · rename_i te hte
      obtain ⟨e, hE⟩ := elemT_spec hT hte
      obtain ⟨y1, y2, h1, h2, rfl⟩ := x2_spec hi
      have g1 := hρ a (by simp [Op.operands]) y1 h1
      have g2 := hρ b (by simp [Op.operands]) y2 h2
      have hr' : mkslR s te.size te.by_ (zcells te.z) (rd y1 fr L) (rd y2 fr L) = .val c s' := hr
      obtain ⟨k1, n1, e1, hr1⟩ := onNat_vr g1 (show onNat (rd y1 fr L) _ = _ from hr') (by simp)
      obtain ⟨k2, n2, e2, hr2⟩ := onNat_vr g2 (show onNat (rd y2 fr L) _ = _ from hr1) (by simp)
      obtain ⟨hb, hr3⟩ := cond_of hr2 (by simp)
      obtain ⟨hb, b3⟩ := and3 hb
      obtain ⟨b1, b2⟩ := and3 hb
      obtain ⟨hone, hr4⟩ := newO_of hr3 (by simp)
      cases hr4
      refine .makes hone fun hk => ?_
      rw [e1, e2]
      exact mksl_ok x hE (nble_iff.1 b1) (nble_iff.1 b2) hone hk
    · cases hi
  | makeFunc f first cs =>
    obtain ⟨first⟩ := first
    cases f <;> cases first <;> first | (cases hi; done) | skip
    rename_i f
    obtain ⟨as, has, rfl⟩ := map_some' (show (cXs ps v cs.toList).map (.mkf f) = some i from hi)
    cases hr
    have g := cXs_spec (ρ := ρ) (m := m) (K := K) (fr := fr) (L := L) has (fun y hy => hρ y (by simpa [Op.operands] using hy))
    refine .inl ⟨rfl, .func (.func f) #[] (cs.map ρ), by simp [execOp, Instr.makeFunc], ?_⟩
    have e : cs.map ρ = ⟨cs.toList.map ρ⟩ := by apply Array.ext'; simp
    rw [e]
    exact .fn f _ _ g
  | extract a j =>
    obtain ⟨y, hy, rfl⟩ := x1_spec (f := fun x => .ext x j) hi
    exact .gives (ext_ok (hρ a (by simp [Op.operands]) y hy) hr)
  | call cl =>
    obtain ⟨callee, args, tys⟩ := cl
    obtain ⟨args⟩ := args
    cases callee with
    | invoke _ _ => cases hi
    | value f =>
      exfalso
      simp only [cIns] at hi
      split at hi
      · cases hi; cases hk
      · cases hi
    | builtin b =>
      have hb : ∀ as, (⟨args⟩ : Array Operand).map ρ = as → ValOk P B w (builtin b tys type ((⟨args⟩ : Array Operand).map fun | .const _ => true | _ => false) as) m K h s s' c → ValOk P B w (execOp ρ ⟨dst, .call ⟨.builtin b, ⟨args⟩, tys⟩, type, pos, after, guard⟩) m K h s s' c := fun q hq hv => by
        subst hq
        exact hv
      cases b <;> (rcases args with _ | ⟨a, _ | ⟨b, _ | ⟨d, args⟩⟩⟩) <;> first | (cases hi; done) | skip
      all_goals simp only [cIns] at hi
      case append.cons.cons.nil =>
        exfalso
        revert hi
        repeat' split
        all_goals (intro hi; first | (cases hi; done) | (obtain ⟨_, _, _, _, rfl⟩ := x2_spec hi; cases hk))
      case copy.cons.cons.nil =>
        exfalso
        revert hi
        repeat' split
        all_goals (intro hi; first | (cases hi; done) | (obtain ⟨_, _, _, _, rfl⟩ := x2_spec hi; cases hk))
      case clear.cons.nil =>
        exfalso
        revert hi
        repeat' split
        all_goals (intro hi; first | (cases hi; done) | (obtain ⟨_, _, rfl⟩ := x1_spec hi; cases hk))
      case cap.cons.nil =>
        split at hi
        · rename_i t ht
          split at hi
          · rename_i ti hti
            split at hi
            · rename_i hk1
              obtain ⟨y, hy, rfl⟩ := x1_spec hi
              exact hb #[ρ a] (by simp) (.gives (cap_ok (hT t ti hti) hk1 ht type (hρ a (by simp [Op.operands, Call.operands]) y hy) hr))
            · cases hi
          · cases hi
        · cases hi
      case len.cons.nil =>
        split at hi
        · rename_i t ht
          split at hi
          · rename_i ti hti
            split at hi
            · rename_i hk1
              obtain ⟨y, hy, rfl⟩ := x1_spec hi
              exact hb #[ρ a] (by simp) (.gives (lens_ok (hT t ti hti) hk1 ht type (hρ a (by simp [Op.operands, Call.operands]) y hy) hr))
            · rename_i hk1
              obtain ⟨y, hy, rfl⟩ := x1_spec hi
              exact hb #[ρ a] (by simp) (.gives (len_ok (hT t ti hti) hk1 ht type (hρ a (by simp [Op.operands, Call.operands]) y hy) hr))
            · rename_i n hk1
              cases hi
              cases hr
              refine hb #[ρ a] (by simp) (.gives ⟨rfl, .int .i64 (n : Int), fun w => ?_, .int _ _⟩)
              simp [Builtin.len_, ht, run_underlying ((hT t ti hti).array hk1), goInt]
            · cases hi
          · cases hi
        · cases hi
      case min.cons.cons.nil =>
        obtain ⟨y1, y2, h1, h2, rfl⟩ := x2_spec hi
        exact hb #[ρ a, ρ b] (by simp) (.gives (mn_ok tys type (hρ a (by simp [Op.operands, Call.operands]) y1 h1) (hρ b (by simp [Op.operands, Call.operands]) y2 h2) hr))
      case max.cons.cons.nil =>
        obtain ⟨y1, y2, h1, h2, rfl⟩ := x2_spec hi
        exact hb #[ρ a, ρ b] (by simp) (.gives (mx_ok tys type (hρ a (by simp [Op.operands, Call.operands]) y1 h1) (hρ b (by simp [Op.operands, Call.operands]) y2 h2) hr))
  | _ => cases hi
end
end Go.Pal
