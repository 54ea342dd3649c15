/-
  Appending, copying, clearing: what comes of them.
-/
import Derived.Test.YtmomgakmgafdeaaGreatDoorPalMem4
namespace Go.Pal
open Go.RowKit

section
variable {P : Program} {B : Nat} {m : LM} {K : Nat → Prop} {h : HF} {w : World} {t e tx : TypeId} {te ti : TI}

theorem allOne_of : ∀ {l : List AV}, (∀ a ∈ l, one? a = true) → allOne l = true
  | [], _ => rfl
  | x :: l, h => by
    show (bif one? x then allOne l else false) = true
    rw [h x List.mem_cons_self, allOne_of fun a ha => h a (List.mem_cons_of_mem _ ha)]; rfl
theorem lenA_of {v : AV} {f : Nat → R} {r : R} (h : lenA? v f = r) (hr : r ≠ .no) : ∃ k, (∀ g : Nat → R, lenA? v g = g k) ∧ f k = r := by
  cases v <;> first | exact absurd h.symm hr | exact ⟨_, fun _ => rfl, h⟩
theorem lenR_of {v : AV} {f : Nat → R} {r : R} (h : lenR v f = r) (hr : r ≠ .no) : ∃ k, (∀ g : Nat → R, lenR v g = g k) ∧ f k = r := by
  cases v <;> first | exact absurd h.symm hr | exact ⟨_, fun _ => rfl, h⟩
theorem small_of {n : Nat} {q r : R} (h : small n q = r) (hr : r ≠ .no) : n ≤ 1073741824 ∧ q = r := by
  obtain ⟨h1, h2⟩ := cond_of h hr
  exact ⟨nble_iff.1 h1, h2⟩
theorem grown_le (w : World) (need old : Nat) (e : TypeId) : need ≤ grownCap w need old e := by
  unfold grownCap Question.cut; exact Nat.le_add_right _ _
theorem zeroCells_size (z : Array Value) (n : Nat) : (Builtin.zeroCells z n).size = n * z.size := by simp [Builtin.zeroCells]

/-- A new row behind a growing append: the object that comes of it. -/
theorem grow_new (x : HR B m K h w) {i : TypeInfo} {z : Value} (hzs : z.cells.size = i.size) (hpos : 0 < i.size) {need old : Nat} {us : List Value} {c : List AV} (hv : VRL m K us c) (hone : allOne c = true) (hl : us.length = need * i.size) {id : Nat} (hid : ¬ K id) :
    let cs := us.toArray ++ Builtin.zeroCells z.cells (grownCap w need old e - need)
    Pst B id (Nat.succ id) [] m K h w (updF m id ⟨w.heap.size, 0, cs.size⟩) (updF h id (some c)) (w.drew.alloc (.cells cs e)) ∧
      VR (updF m id ⟨w.heap.size, 0, cs.size⟩) (Kx K id (Nat.succ id)) (.slice (some ⟨w.heap.size, 0, none⟩) need (grownCap w need old e)) (.so id 0 need i.size) := by
  intro cs
  have hge := grown_le w need old e
  have hsz : cs.size = grownCap w need old e * i.size := by
    simp only [cs, Array.size_append, zeroCells_size, hzs, List.size_toArray, hl]
    rw [← Nat.add_mul]; congr 1; omega
  refine ⟨((x.keeps (Keeps.drew w)).allocP hid e (0, 0) hv hone (fun j u hj => ?_) ?_ (.inr rfl)).fromDrew, ?_⟩
  · have hj' : j < us.length := (List.getElem?_eq_some_iff.1 hj).1
    simp only [cs]
    rw [Array.getElem?_append_left (by simpa using hj')]
    simpa using hj
  · rw [← hv.length, hsz, hl]
    exact Nat.mul_le_mul_right _ hge
  · have := VR.so (m := updF m id ⟨w.heap.size, 0, cs.size⟩) (K := Kx K id (Nat.succ id)) id 0 need i.size (grownCap w need old e) kx_new hpos (by rw [updF_same]; simp [hsz])
    rw [updF_same] at this
    exact this

theorem sub_new {s : St} (hs : Sub s h) (c : List AV) (wd : List Nat) : Sub ⟨(s.nxt, c) :: s.heap, Nat.succ s.nxt, wd⟩ (updF h s.nxt (some c)) := by
  intro j d hd
  change get ((s.nxt, c) :: s.heap) j = some d at hd
  rw [get_cons] at hd
  by_cases e : s.nxt = j
  · subst e; simp at hd; subst hd; rw [updF_same]
  · rw [if_neg e] at hd
    rw [updF_ne _ _ (fun g => e g.symm)]
    exact hs j d hd
theorem sub_del {s : St} (ok : OKs s) (hs : Sub s h) (id : Nat) : Sub ⟨del s.heap id, s.nxt, s.wd⟩ (updF h id none) := by
  intro j d hd
  change get (del s.heap id) j = some d at hd
  rw [get_del ok.desc] at hd
  by_cases e : j = id
  · rw [if_pos e] at hd; cases hd
  · rw [if_neg e] at hd
    rw [updF_ne _ _ e]
    exact hs j d hd
theorem OKs.del {s : St} (ok : OKs s) (id : Nat) : OKs ⟨del s.heap id, s.nxt, s.wd⟩ := ok.sub (del_sub _ _) (Nat.le_refl _) _

theorem appR_nil (s : St) (esz n : Nat) (nw : List AV) : appR s esz .nilsl n nw = bif Nat.beq n 0 then .eff .nilsl s [] else newO s nw fun id s => .eff (.so id 0 n esz) s [] := rfl
theorem appR_sl (s : St) (esz n : Nat) (nw : List AV) (id off len cap : Nat) : appR s esz (.sl id off len cap) n nw = orNo (get s.heap id) fun c =>
      bif Nat.ble (len + n) cap then orNo (setC c nw (off + len * esz)) fun c' => bif allOne nw then .eff (.sl id off (len + n) cap) (wrO s id c') [id] else .no
      else orNo (cellsAt c off (len * esz)) fun old => newO s (Pal.app old nw) fun id s => .eff (.so id 0 (len + n) esz) s [] := rfl
theorem appR_so (s : St) (esz n : Nat) (nw : List AV) (id off len e : Nat) : appR s esz (.so id off len e) n nw = orNo (get s.heap id) fun c => bif Nat.beq e esz then
      bif Nat.ble (off + (len + n) * esz) (lenA c) then orNo (setC c nw (off + len * esz)) fun c' => bif allOne nw then .eff (.so id off (len + n) e) (wrO s id c') [id] else .no
      else orNo (cellsAt c off (len * esz)) fun old => newO ⟨Pal.del s.heap id, s.nxt, s.wd⟩ (Pal.app old nw) fun id' s => .eff (.so id' 0 (len + n) e) s [id] else .no := rfl

theorem app_ok (x : HR B m K h w) {s s' : St} (hs : Sub s h) (ok : OKs s) (hfr : s.nxt < s'.nxt → ¬ K s.nxt) {i : TypeInfo} {z v : Value} {n : Nat} {news : List Value} (ha : AppS P w t e tx i z v n news)
    (hzs : z.cells.size = i.size) (hpos : 0 < i.size) (hby : i.bytes ≤ 4096) {nw : List AV} (hnw : VRL m K news nw) {u : Value} {a : AV} (hu : VR m K u a) {k : Nat} (hk : ∀ f : Nat → R, lenA? a f = f k) (hkb : k ≤ 1073741824) (hnb : n ≤ 1073741824)
    {r : AV} {W : List Nat} (hr : appR s i.size a n nw = .eff r s' W) (ty : TypeId) :
    Effs P B w (Builtin.append_ #[t, tx] ty #[u, v]) m K h s.nxt s'.nxt W s' r := by
  have hlen := ha.len
  have hnl := hnw.length
  cases hu <;> first | (cases hr; done) | skip
  · -- a slice of a known capacity
    rename_i id off len cap hid
    have hkl : len ≤ 1073741824 := by
      have h0 : R.val (.ptr len 0) s = .val (.ptr k 0) s := hk (fun n => .val (.ptr n 0) s)
      cases h0
      exact hkb
    rw [appR_sl] at hr
    obtain ⟨c, hc, hr1⟩ := orNo_of hr (by simp)
    have hh := hs id c hc
    cases hb : Nat.ble (len + n) cap with
    | true =>
      rw [hb] at hr1
      obtain ⟨c', hset, hr2⟩ := orNo_of hr1 (by simp)
      obtain ⟨hone, hr3⟩ := cond_of hr2 (by simp)
      cases hr3
      have hle := nble_iff.1 hb
      obtain ⟨r1, r2⟩ := x.room hh hset hnw
      have hrun := ha.room ty (m id).blk ((m id).base + off) len cap hle (fun j hj => by rw [Nat.add_assoc]; simpa [Nat.add_assoc] using r1 j hj) (fun j hj => by simpa [Nat.add_assoc] using r2 j hj)
      rw [Nat.add_assoc] at hrun
      exact ⟨_, _, m, _, hrun, (VR.sl id off (len + n) cap hid).mono Kx.le (fun _ _ => rfl), x.writeP hh (ok.getLt hc) hset hnw hone, sub_put hs hc⟩
    | false =>
      rw [hb] at hr1
      obtain ⟨old, hold, hr2⟩ := orNo_of hr1 (by simp)
      obtain ⟨hone, hr3⟩ := newO_of hr2 (by simp)
      cases hr3
      have hfr := hfr (Nat.lt_succ_self _)
      have hlt : cap < len + n := by
        rcases Nat.lt_or_ge cap (len + n) with g | g
        · exact g
        · rw [nble_iff.2 g] at hb; cases hb
      obtain ⟨us, g1, g2, g3, g4⟩ := x.read hh hold
      have hfc : (Builtin.firstCells i.size len (.slice (some ⟨(m id).blk, (m id).base + off, none⟩) len cap)).run P w.drew = .ok us.toArray w.drew := run_firstCells_some w.drew i.size len _ len cap us g1 (by simpa using g4)
      have hrun := ha.grow ty (some ⟨(m id).blk, (m id).base + off, none⟩) len cap us hfc hlt (by omega) hby
      rw [app_eq] at hone ⊢
      obtain ⟨q1, q2⟩ := grow_new (e := e) (old := cap) x hzs hpos (g2.append hnw) hone (need := len + n) (by rw [List.length_append, g1, hlen, Nat.add_mul]) hfr
      exact ⟨_, _, _, _, hrun, q2, q1, sub_new hs _ _⟩
  · -- of all the room there is
    rename_i id off len esz cap hid hz ht
    have hkl : len ≤ 1073741824 := by
      have h0 : R.val (.ptr len 0) s = .val (.ptr k 0) s := hk (fun n => .val (.ptr n 0) s)
      cases h0
      exact hkb
    rw [appR_so] at hr
    obtain ⟨c, hc, hr0⟩ := orNo_of hr (by simp)
    obtain ⟨he, hr1⟩ := cond_of hr0 (by simp)
    have he := nbeq_iff.1 he
    subst he
    have hh := hs id c hc
    have o := x.obj id c hh
    have hfit := o.fits
    cases hb : Nat.ble (off + (len + n) * i.size) (lenA c) with
    | true =>
      rw [hb] at hr1
      obtain ⟨c', hset, hr2⟩ := orNo_of hr1 (by simp)
      obtain ⟨hone, hr3⟩ := cond_of hr2 (by simp)
      cases hr3
      have hle := nble_iff.1 hb
      rw [lenA_eq] at hle
      have hcap : len + n ≤ cap := by
        have : (len + n) * i.size ≤ cap * i.size := by omega
        exact Nat.le_of_mul_le_mul_right this hpos
      obtain ⟨r1, r2⟩ := x.room hh hset hnw
      have hrun := ha.room ty (m id).blk ((m id).base + off) len cap hcap (fun j hj => by simpa [Nat.add_assoc] using r1 j hj) (fun j hj => by simpa [Nat.add_assoc] using r2 j hj)
      rw [Nat.add_assoc] at hrun
      exact ⟨_, _, m, _, hrun, (VR.so id off (len + n) i.size cap hid hpos ht).mono Kx.le (fun _ _ => rfl), x.writeP hh (ok.getLt hc) hset hnw hone, sub_put hs hc⟩
    | false =>
      rw [hb] at hr1
      obtain ⟨old, hold, hr2⟩ := orNo_of hr1 (by simp)
      obtain ⟨hone, hr3⟩ := newO_of hr2 (by simp)
      cases hr3
      have hfr := hfr (Nat.lt_succ_self _)
      rw [app_eq] at hone ⊢
      have hsub : Sub ⟨(s.nxt, old ++ nw) :: Pal.del s.heap id, Nat.succ s.nxt, s.wd⟩ (updF (updF h id none) s.nxt (some (old ++ nw))) := sub_new (sub_del ok hs id) _ _
      obtain ⟨us, g1, g2, g3, g4⟩ := x.read hh hold
      by_cases hcap : len + n ≤ cap
      · -- grown where it lies
        have hnone : allOne nw = true := by
          have := allOne_spec hone
          exact (allOne_of fun a ha => this a (List.mem_append_right _ ha))
        have hroom : (m id).base + off + len * i.size + nw.length ≤ (m id).tot := by
          have : (len + n) * i.size ≤ cap * i.size := Nat.mul_le_mul_right _ hcap
          rw [Nat.add_mul] at this
          omega
        have hrun := ha.room ty (m id).blk ((m id).base + off) len cap hcap (fun j hj => o.there _ (by omega)) (fun j hj => o.froz _ (by omega) (by omega))
        refine ⟨_, _, updF m s.nxt ⟨(m id).blk, (m id).base + off, (m id).tot⟩, _, hrun, ?_, ⟨Nat.le_succ _, fun j hj => updF_ne _ _ (fun e => hfr (e ▸ hj)), ?_, fun j hj hw => ?_, fun j hj => ?_, below_setCells _ _ _ o.low w⟩, hsub⟩
        · have := VR.so (m := updF m s.nxt ⟨(m id).blk, (m id).base + off, (m id).tot⟩) (K := Kx K s.nxt (Nat.succ s.nxt)) s.nxt 0 (len + n) i.size cap kx_new hpos (by rw [updF_same]; simpa using ht)
          rw [updF_same] at this
          exact this
        · exact (x.regrow hh hfr hold hnw hnone hroom).weak (fun j hj => hj.elim .inl fun e => .inr (by subst e; exact ⟨Nat.le_refl _, Nat.lt_succ_self _⟩))
        · have : j ≠ id := fun e => hw (by simp [e])
          rw [updF_ne _ _ (by omega), updF_ne _ _ this]
        · have := ok.getLt hc
          have hj : Nat.succ s.nxt ≤ j := hj
          rw [updF_ne _ _ (by omega), updF_ne _ _ (by omega)]
      · -- elsewhere
        have hfc : (Builtin.firstCells i.size len (.slice (some ⟨(m id).blk, (m id).base + off, none⟩) len cap)).run P w.drew = .ok us.toArray w.drew := run_firstCells_some w.drew i.size len _ len cap us g1 (by simpa using g4)
        have hrun := ha.grow ty (some ⟨(m id).blk, (m id).base + off, none⟩) len cap us hfc (by omega) (by omega) hby
        have x' : HR B m K (updF h id none) w := x.dropTo fun j d hd => by
          by_cases e : j = id
          · subst e; rw [updF_same] at hd; cases hd
          · rw [updF_ne _ _ e] at hd; exact hd
        obtain ⟨q1, q2⟩ := grow_new (e := e) (old := cap) x' hzs hpos (g2.append hnw) hone (need := len + n) (by rw [List.length_append, g1, hlen, Nat.add_mul]) hfr
        refine ⟨_, _, _, _, hrun, q2, ⟨q1.le, q1.same, q1.hr, fun j hj hw => ?_, fun j hj => ?_, q1.below⟩, hsub⟩
        · rw [q1.old j hj (by simp)]
          exact updF_ne _ _ (fun e => hw (by simp [e]))
        · have hj : Nat.succ s.nxt ≤ j := hj
          rw [q1.more j hj]
          exact updF_ne _ _ (by have := ok.getLt hc; omega)
  · -- nil
    rw [appR_nil] at hr
    cases hb : Nat.beq n 0 with
    | true =>
      rw [hb] at hr
      cases hr
      have := nbeq_iff.1 hb
      exact ⟨_, _, m, h, ha.nil0 ty this, .nilsl, Pst.refl x, hs⟩
    | false =>
      rw [hb, cond_false] at hr
      obtain ⟨hone, hr3⟩ := newO_of hr (by simp)
      cases hr3
      have hfr := hfr (Nat.lt_succ_self _)
      have hn : n ≠ 0 := fun e => by subst e; cases hb
      have hrun := ha.grow ty none 0 0 [] (by simp [Builtin.firstCells]) (by omega) (by omega) hby
      simp only [Nat.zero_add, List.nil_append] at hrun
      obtain ⟨q1, q2⟩ := grow_new (e := e) (old := 0) x hzs hpos hnw hone (need := n) hlen hfr
      exact ⟨_, _, _, _, hrun, q2, q1, sub_new hs _ _⟩

/-- The cells that a source yields: n elements. -/
theorem srcR_ok (x : HR B m K h w) {s : St} (hs : Sub s h) {v : Value} {b : AV} (hv : VR m K v b) {esz n : Nat} {f : List AV → R} {r : R} (hr : srcR s esz n b f = r) (hne : r ≠ .no) :
    ∃ us l, (Builtin.firstCells esz n v).run P w = .ok us.toArray w ∧ us.length = n * esz ∧ VRL m K us l ∧ (∀ u ∈ us, u.oneCell' = true) ∧ f l = r ∧
      (∀ k, (∀ g : Nat → R, lenA? b g = g k) → k = n → ∀ tx e', P.underlying tx = some (.slice e') → Src P esz tx v n us w) := by
  have key : ∀ id off len cap, v = .slice (some ⟨(m id).blk, (m id).base + off, none⟩) len cap → (∀ g : Nat → R, lenA? b g = g len) → (orNo (get s.heap id) fun c => orNo (cellsAt c off (n * esz)) f) = r →
      ∃ us l, (Builtin.firstCells esz n v).run P w = .ok us.toArray w ∧ us.length = n * esz ∧ VRL m K us l ∧ (∀ u ∈ us, u.oneCell' = true) ∧ f l = r ∧
      (∀ k, (∀ g : Nat → R, lenA? b g = g k) → k = n → ∀ tx e', P.underlying tx = some (.slice e') → Src P esz tx v n us w) := by
    intro id off len cap hv' hb hr
    obtain ⟨c, hc, hr1⟩ := orNo_of hr hne
    obtain ⟨l, hl, hr2⟩ := orNo_of hr1 hne
    obtain ⟨us, g1, g2, g3, g4⟩ := x.read (hs id c hc) hl
    subst hv'
    refine ⟨us, l, run_firstCells_some w esz n _ len cap us g1 g4, g1, g2, g3, hr2, fun k hk hkn tx e' htx => ?_⟩
    have h0 : R.val (.ptr len 0) s = .val (.ptr k 0) s := (hb (fun n => .val (.ptr n 0) s)).symm.trans (hk (fun n => .val (.ptr n 0) s))
    cases h0
    subst hkn
    exact Src.ofSlice w htx _ len cap us g1 g4 g3
  cases hv <;> first | (exact absurd hr.symm hne) | skip
  · rename_i str l hl
    obtain ⟨hb, hr1⟩ := cond_of (show (bif Nat.beq esz 1 && Nat.ble n (lenN l) then f (ofBytes (takeN l n)) else .no) = r from hr) hne
    obtain ⟨b1, b2⟩ := and3 hb
    have b1 := nbeq_iff.1 b1
    have b2 := nble_iff.1 b2
    subst b1
    have hlen : lenN l = str.size := by rw [lenN_eq, ← hl, List.length_map, Array.length_toList]; rfl
    rw [hlen] at b2
    refine ⟨(str.data.toList.take n).map fun b => Value.int .u8 b.toNat, _, ?_, ?_, ?_, ?_, hr1, fun k hk => ?_⟩
    · simp only [Builtin.firstCells, Sem.run_pure]
      congr 1
      apply Array.ext'
      simp [ByteArray.data_extract]
    · have : str.data.size = str.size := rfl
      simp only [List.length_map, List.length_take, Array.length_toList, this]
      omega
    · rw [takeN_eq, ← hl, ← List.map_take]
      exact ofBytes_ok _
    · intro u hu
      obtain ⟨_, _, rfl⟩ := List.mem_map.1 hu
      rfl
    · have h0 : R.no = .val (.ptr k 0) s := hk (fun n => .val (.ptr n 0) s)
      cases h0
  · exact key _ _ _ _ rfl (fun _ => rfl) hr
  · exact key _ _ _ _ rfl (fun _ => rfl) hr
  · obtain ⟨hb, hr1⟩ := cond_of (show (bif Nat.beq n 0 then f [] else .no) = r from hr) hne
    have hb := nbeq_iff.1 hb
    subst hb
    exact ⟨[], [], by simp [Builtin.firstCells], by simp, .nil, (fun u hu => by cases hu), hr1, fun k hk hkn tx e' htx => Src.ofNil w htx 0⟩

theorem lenOf_run {v : Value} {b : AV} (hv : VR m K v b) {n : Nat} (hn : ∀ g : Nat → R, lenR b g = g n) (s : St) : (Builtin.lenOf v).run P w = .ok n w := by
  have h0 := hn (fun n => .val (.ptr n 0) s)
  cases hv <;> first | (cases h0; done) | skip
  · rename_i str l hl
    have h1 : R.val (.ptr (lenN l) 0) s = .val (.ptr n 0) s := h0
    cases h1
    have hlen : lenN l = str.size := by rw [lenN_eq, ← hl, List.length_map, Array.length_toList]; rfl
    rw [hlen]; rfl
  all_goals
    first
    | (have h1 : R.val (.ptr _ 0) s = .val (.ptr n 0) s := h0
       cases h1; rfl)

theorem cpyR_row (s : St) (esz : Nat) (d x : AV) {id off len : Nat} (hd : (∃ cap, d = .sl id off len cap) ∨ ∃ e, d = .so id off len e) : cpyR s esz d x = lenR x fun n0 => srcR s esz (minN n0 len) x fun l => orNo (get s.heap id) fun c => orNo (setC c l off) fun c' => bif allOne l then .eff (.int .i64 (.ofNat (minN n0 len))) (wrO s id c') [id] else .no := by
  rcases hd with ⟨_, rfl⟩ | ⟨_, rfl⟩ <;> rfl
theorem minN_eq (a b : Nat) : minN a b = Nat.min a b := by
  unfold minN
  cases h : Nat.ble a b with
  | true => have := nble_iff.1 h; simp only [cond_true]; exact (Nat.min_eq_left this).symm
  | false =>
    have : ¬ a ≤ b := fun g => by rw [nble_iff.2 g] at h; cases h
    simp only [cond_false]; exact (Nat.min_eq_right (by omega)).symm

theorem cpy_ok (x : HR B m K h w) {s s' : St} (hs : Sub s h) (ok : OKs s) (ht : P.underlying t = some (.slice e)) {i : TypeInfo} (hi : P.info? e = some i) {u v : Value} {a b : AV} (hu : VR m K u a) (hv : VR m K v b)
    {r : AV} {W : List Nat} (hr : cpyR s i.size a b = .eff r s' W) (ty : TypeId) : Effs P B w (Builtin.copy_ #[t, tx] ty #[u, v]) m K h s.nxt s'.nxt W s' r := by
  have key : ∀ id off len cap, u = .slice (some ⟨(m id).blk, (m id).base + off, none⟩) len cap → ((∃ cap, a = .sl id off len cap) ∨ ∃ e, a = .so id off len e) → Effs P B w (Builtin.copy_ #[t, tx] ty #[u, v]) m K h s.nxt s'.nxt W s' r := by
    intro id off len cap hu' ha
    rw [cpyR_row s i.size a b ha] at hr
    obtain ⟨n0, hn0, hr1⟩ := lenR_of hr (by simp)
    obtain ⟨us, l, q1, q2, q3, q4, hr2, _⟩ := srcR_ok (P := P) x hs hv hr1 (by simp)
    obtain ⟨c, hc, hr3⟩ := orNo_of hr2 (by simp)
    obtain ⟨c', hset, hr4⟩ := orNo_of hr3 (by simp)
    obtain ⟨hone, hr5⟩ := cond_of hr4 (by simp)
    cases hr5
    subst hu'
    have hh := hs id c hc
    obtain ⟨r1, r2⟩ := x.room hh hset q3
    have hst := run_storeCells_cells (P := P) (m id).blk ((m id).base + off) us 0 w (by simpa using r1) (by simpa using r2) q4
    simp only [Nat.add_zero] at hst
    rw [minN_eq] at q1 ⊢
    have hl := lenOf_run (P := P) (w := w) hv hn0 s
    refine ⟨.int .i64 (Int.ofNat (Nat.min n0 len)), _, m, _, ?_, .int _ _, x.writeP hh (ok.getLt hc) hset q3 hone, sub_put hs hc⟩
    simp only [Builtin.copy_]
    simp [hst, hl, q1, goInt, run_underlying ht, sizeOf_run e hi]
  cases hu <;> first | (exact key _ _ _ _ rfl (.inl ⟨_, rfl⟩)) | (exact key _ _ _ _ rfl (.inr ⟨_, rfl⟩)) | skip
  all_goals obtain ⟨n0, hn0, hr1⟩ := lenR_of (show lenR b _ = _ from hr) (by simp)
  all_goals first | (cases hr1; done) | skip
  cases hr1
  have hl := lenOf_run (P := P) (w := w) hv hn0 s
  have hfc : (Builtin.firstCells i.size 0 v).run P w = .ok #[] w := by
    have h0 := hn0 (fun n => .val (.ptr n 0) s)
    cases hv <;> first | (cases h0; done) | skip
    · simp [Builtin.firstCells]
    all_goals first | exact run_firstCells_some w i.size 0 _ _ _ [] (by simp) (fun j v hj => by simp at hj) | simp [Builtin.firstCells]
  refine ⟨.int .i64 (Int.ofNat 0), _, m, _, ?_, .int _ _, Pst.refl x, hs⟩
  simp [Builtin.copy_, run_underlying ht, hl, sizeOf_run e hi, hfc, goInt]

theorem clrR_row (s : St) (esz : Nat) (z : List AV) (d : AV) {id off len : Nat} (hd : (∃ cap, d = .sl id off len cap) ∨ ∃ e, d = .so id off len e) : clrR s esz z d = orNo (get s.heap id) fun c => orNo (setC c (rep len z) off) fun c' => bif allOne (rep len z) && Nat.beq (lenA z) esz then .eff (.tup []) (wrO s id c') [id] else .no := by
  rcases hd with ⟨_, rfl⟩ | ⟨_, rfl⟩ <;> rfl
theorem setC_nil (l : List AV) {n : Nat} {r : List AV} (h : setC l [] n = some r) : r = l := by
  obtain ⟨h1, h2, h3⟩ := setC_spec l [] n h
  apply List.ext_getElem?
  intro i
  rw [h3 i, if_neg (fun hh => by obtain ⟨g1, g2⟩ := hh; simp only [List.length_nil] at g2; omega)]
theorem clr_ok (x : HR B m K h w) {s s' : St} (hs : Sub s h) (ok : OKs s) (hE : ElT P t e te) {u : Value} {a : AV} (hu : VR m K u a)
    {r : AV} {W : List Nat} (hr : clrR s te.size (zcells te.z) a = .eff r s' W) (ty : TypeId) : Effs P B w (Builtin.clear_ #[t] ty #[u]) m K h s.nxt s'.nxt W s' r := by
  obtain ⟨i, zv, hi, hsz, _, hzv, hv, hzs⟩ := hE.zero m K
  have hpos := hE.pos
  have key : ∀ id off len cap, u = .slice (some ⟨(m id).blk, (m id).base + off, none⟩) len cap → ((∃ cap, a = .sl id off len cap) ∨ ∃ e, a = .so id off len e) → Effs P B w (Builtin.clear_ #[t] ty #[u]) m K h s.nxt s'.nxt W s' r := by
    intro id off len cap hu' ha
    rw [clrR_row s te.size _ a ha] at hr
    obtain ⟨c, hc, hr3⟩ := orNo_of hr (by simp)
    obtain ⟨c', hset, hr4⟩ := orNo_of hr3 (by simp)
    obtain ⟨hone, hr5⟩ := cond_of hr4 (by simp)
    cases hr5
    obtain ⟨hone, _⟩ := and3 hone
    subst hu'
    have hh := hs id c hc
    have hrep := rep_ok hv len
    have hp := x.writeP hh (ok.getLt hc) hset hrep hone
    have hsub := sub_put (c' := c') hs hc
    cases len with
    | zero =>
      refine ⟨.tuple #[], _, m, _, ?_, .tup [] [] .nil, hp, hsub⟩
      simp only [List.replicate_zero, List.flatten_nil]
      simp [Builtin.clear_, run_underlying hE.sl]
      rfl
    | succ n =>
      obtain ⟨r1, r2⟩ := x.room hh hset hrep
      have hst := run_storeCells_cells (P := P) (m id).blk ((m id).base + off) _ 0 w (by simpa using r1) (by simpa using r2) (hrep.oneCells hone)
      simp only [Nat.add_zero] at hst
      have hzc : Builtin.zeroCells zv.cells (n + 1) = ⟨(List.replicate (n + 1) zv.cells.toList).flatten⟩ := zeros_eq zv.cells (n + 1) (by omega)
      refine ⟨.tuple #[], _, m, _, ?_, .tup [] [] .nil, hp, hsub⟩
      simp [Builtin.clear_, run_underlying hE.sl, zeroValue_run e hi hzv, hzc, hst]
  cases hu <;> first | (exact key _ _ _ _ rfl (.inl ⟨_, rfl⟩)) | (exact key _ _ _ _ rfl (.inr ⟨_, rfl⟩)) | (cases hr; done) | skip
  cases hr
  refine ⟨.tuple #[], _, m, _, ?_, .tup [] [] .nil, Pst.refl x, hs⟩
  simp [Builtin.clear_, run_underlying hE.sl]
end
end Go.Pal
