/-
  Slices: made, out of texts, cut, written, appended to.
-/
import Derived.Test.YtmomgakmgafdeaaGreatDoorPalMem
import Derived.Laws.MakeOwn
namespace Go.Pal
open Go.RowKit

/-- An element's type, fit for rows. -/
structure ElT (P : Program) (t : TypeId) (e : TypeId) (te : TI) : Prop where
  sl : P.underlying t = some (.slice e)
  row : TIr P e te
  pos : 0 < te.size
  bpos : 0 < te.by_
  bmax : te.by_ ≤ 4096
  zlen : (zcells te.z).length = te.size
  zsome : te.z.isSome = true
  zok : allOk (zcells te.z) = true

theorem one1_eq (v : AV) : one1 v = one? v := by cases v <;> rfl
theorem allOk_eq : ∀ l : List AV, allOk l = allOne l
  | [] => rfl
  | v :: r => by
    rw [show allOne (v :: r) = (bif one? v then allOne r else false) from rfl]
    unfold allOk
    rw [one1_eq, allOk_eq r]
    cases one? v <;> rfl

theorem elemT_spec {P : Program} {T : TT} (hT : ∀ t ti, T t = some ti → TIr P t ti) {t : TypeId} {te : TI} (h : elemT T t = some te) : ∃ e, ElT P t e te := by
  unfold elemT at h
  split at h
  · rename_i ti hti
    split at h
    · rename_i hk
      split at h
      · rename_i e he
        cases hc : (Nat.blt 0 e.size && Nat.blt 0 e.by_ && Nat.ble e.by_ 4096 && Nat.beq (zcells e.z).length e.size && e.z.isSome && allOk (zcells e.z)) with
        | false => rw [hc] at h; cases h
        | true =>
          rw [hc] at h
          cases h
          simp only [Bool.and_eq_true, nblt_iff, nble_iff, nbeq_iff] at hc
          obtain ⟨⟨⟨⟨⟨c1, c2⟩, c3⟩, c4⟩, c5⟩, c6⟩ := hc
          exact ⟨ti.elem, (hT t ti hti).slice hk, hT _ _ he, c1, c2, c3, c4, c5, c6⟩
      · cases h
    · cases h
  · cases h

section
variable {P : Program} {B : Nat} {m : LM} {K : Nat → Prop} {h : HF} {w : World} {t e : TypeId} {te : TI}

theorem ElT.zero (x : ElT P t e te) (m : LM) (K : Nat → Prop) : ∃ i zv, P.info? e = some i ∧ i.size = te.size ∧ i.bytes = te.by_ ∧ i.zero = some zv ∧ VRL m K zv.cells.toList (zcells te.z) ∧ zv.cells.size = te.size := by
  obtain ⟨i, hi, hs, hb, hzz⟩ := x.row.info
  have hz := x.zsome
  rw [hzz] at hz
  obtain ⟨zv, hzv⟩ : ∃ zv, i.zero = some zv := by
    cases hq : i.zero with
    | none => rw [hq] at hz; cases hz
    | some zv => exact ⟨zv, rfl⟩
  have hte : te.z = some (absV zv) := by rw [hzz, hzv]; rfl
  have hv := absV_ok m K zv
  have hzl := x.zlen
  have hzo := x.zok
  rw [hte] at hzl hzo ⊢
  have hcv : VRL m K zv.cells.toList (zcells (some (absV zv))) := by
    refine hv.cells ?_
    generalize absV zv = a at *
    cases a <;> first | rfl | (cases hzo; done)
  refine ⟨i, zv, hi, hs, hb, hzv, hcv, ?_⟩
  have := hcv.length
  rw [hzl] at this
  simpa using this

theorem rep_ok {us : List Value} {z : List AV} (hz : VRL m K us z) (n : Nat) : VRL m K ((List.replicate n us).flatten) (rep n z) := by
  induction n with
  | zero => exact .nil
  | succ n ih => rw [rep_succ, List.replicate_succ, List.flatten_cons]; exact hz.append ih
theorem flat_get (us : List Value) (n i : Nat) (hi : i < n * us.length) : ((List.replicate n us).flatten)[i]? = us[i % us.length]? := by
  induction n generalizing i with
  | zero => simp at hi
  | succ n ih =>
    rw [List.replicate_succ, List.flatten_cons]
    by_cases h : i < us.length
    · rw [List.getElem?_append_left h, Nat.mod_eq_of_lt h]
    · rw [List.getElem?_append_right (by omega), ih (i - us.length) (by rw [Nat.succ_mul] at hi; omega)]
      congr 1
      exact (Nat.mod_eq_sub_mod (by omega)).symm
/-- The model's own row of zeros. -/
theorem zeros_eq (cells : Array Value) (n : Nat) (hpos : 0 < cells.size) : ((Array.range (n * cells.size)).map (cells[· % cells.size]!)) = ⟨(List.replicate n cells.toList).flatten⟩ := by
  apply Array.ext
  · simp
  · intro i h1 h2
    have hi : i < n * cells.size := by simpa using h1
    have e2 : ((List.replicate n cells.toList).flatten)[i]? = cells.toList[i % cells.size]? := by
      have := flat_get cells.toList n i (by simpa using hi)
      simpa using this
    have hm : i % cells.size < cells.size := Nat.mod_lt _ hpos
    simp only [Array.getElem_map, Array.getElem_range]
    have e3 : (⟨(List.replicate n cells.toList).flatten⟩ : Array Value)[i] = cells[i % cells.size] := by
      have := List.getElem?_eq_some_iff.1 (e2.trans (by rw [List.getElem?_eq_getElem (by simpa using hm)]))
      obtain ⟨_, h⟩ := this
      simpa using h
    rw [e3]
    simp [hm]

theorem mks_ok (x : HR B m K h w) (hE : ElT P t e te) {n : Nat} (hn : n * te.size ≤ 65536) (fr : Tr) (L : List AV) {vs : Array (Nat × Value)} {ps : List (Nat × Nat × X)}
    (hp : Two (fun (p : Nat × Value) (q : Nat × Nat × X) => some (p.1 * te.size, te.size) = some (q.1, q.2.1) ∧ VR m K p.2 (rd q.2.2 fr L)) vs.toList ps)
    {c : List AV} (hl : fill fr L ps (rep n (zcells te.z)) = some c) (hone : allOne c = true) {id : Nat} (hid : ¬ K id) :
    Makes P B w (Instr.buildSlice t n vs) m K h id c (.sl id 0 n n) := by
  obtain ⟨i, zv, hi, hsz, _, hzv, hv, hzs⟩ := hE.zero m K
  have hpos := hE.pos
  obtain ⟨us, h1, h2⟩ := fill_ok (fun i => some (i * te.size, te.size)) fr L vs.toList ps _ _ c (rep_ok hv n) hp hl
  have hrun : (Instr.buildSlice t n vs).run P w = .ok (.slice (some ⟨w.heap.size, 0, none⟩) n n) (w.alloc (.cells ⟨us⟩ e)) := by
    unfold Instr.buildSlice
    simp only [Sem.run_bind, run_underlying hE.sl, Result.andThen_ok, sizeOf_run e hi, hsz]
    rw [if_neg (by omega)]
    by_cases hz0 : n * te.size = 0
    · have hn0 : n = 0 := by
        rcases Nat.mul_eq_zero.1 hz0 with h | h
        · exact h
        · omega
      subst hn0
      simp only [hz0, if_true, Sem.run_pure, Result.andThen_ok, Sem.run_bind]
      have e0 : ((Array.range 0).map ((#[] : Array Value)[· % (#[] : Array Value).size]!)) = ⟨(List.replicate 0 zv.cells.toList).flatten⟩ := by simp [Array.range_zero']
      rw [e0, h1]
      simp [newRow]
    · simp only [hz0, if_false, Sem.run_bind, zeroValue_run e hi hzv, Result.andThen_ok, Sem.run_pure]
      have := zeros_eq zv.cells n (by omega)
      rw [hzs] at this
      rw [hzs, this, h1]
      simp [newRow]
  refine ⟨_, _, _, hrun, ?_, x.allocP hid e (0, 0) h2 hone (fun j u hj => by simpa using hj) (by rw [← h2.length]; simp) (.inr rfl)⟩
  have := VR.sl (m := updF m id ⟨w.heap.size, 0, us.length⟩) (K := Kx K id (Nat.succ id)) id 0 n n kx_new
  rw [updF_same] at this
  exact this

theorem mksl_ok (x : HR B m K h w) (hE : ElT P t e te) {kl kc : IntKind} {l c : Nat} (hlc : l ≤ c) (hb : c * te.by_ ≤ 1073741824) (hone : allOne (rep c (zcells te.z)) = true) {id : Nat} (hid : ¬ K id) :
    Makes P B w (Instr.makeSlice t (.int kl (Int.ofNat l)) (.int kc (Int.ofNat c))) m K h id (rep c (zcells te.z)) (.sl id 0 l c) := by
  obtain ⟨i, zv, hi, hsz, hby, hzv, hv, hzs⟩ := hE.zero m K
  have hpos := hE.pos
  have hbp := hE.bpos
  have hc1 : c ≤ 1073741824 := Nat.le_trans (Nat.le_mul_of_pos_right c hbp) hb
  have hbi : ((te.by_ : Nat) : Int) * (c : Int) ≤ 1073741824 := by
    have h1 : te.by_ * c ≤ 1073741824 := by rw [Nat.mul_comm]; exact hb
    have h2 : ((te.by_ * c : Nat) : Int) = (te.by_ : Int) * (c : Int) := Int.natCast_mul _ _
    omega
  have hrun : (Instr.makeSlice t (.int kl (Int.ofNat l)) (.int kc (Int.ofNat c))).run P w = .ok (.slice (some ⟨w.heap.size, 0, none⟩) l c) (w.alloc (.cells ⟨(List.replicate c zv.cells.toList).flatten⟩ e)) := by
    have := run_make (P := P) w t e i zv hE.sl hi hzv kl kc (Int.ofNat l) (Int.ofNat c) (by simp) (by simp; exact hlc) (by rw [hby]; have e : Int.ofNat c = (c : Int) := rfl; rw [e]; omega) (by have e : Int.ofNat c = (c : Int) := rfl; rw [e]; omega)
    rw [this]
    have e1 : (Int.ofNat l).toNat = l := rfl
    have e2 : (Int.ofNat c).toNat = c := rfl
    have e3 : madeCells zv.cells (c * i.size) = ⟨(List.replicate c zv.cells.toList).flatten⟩ := by
      rw [hsz, ← hzs]; exact zeros_eq zv.cells c (by omega)
    rw [e1, e2, e3]
  refine ⟨_, _, _, hrun, ?_, x.allocP hid e (0, 0) (rep_ok hv c) hone (fun j u hj => by simpa using hj) (by rw [← (rep_ok hv c).length]; simp) (.inr rfl)⟩
  have := VR.sl (m := updF m id ⟨w.heap.size, 0, (⟨(List.replicate c zv.cells.toList).flatten⟩ : Array Value).size⟩) (K := Kx K id (Nat.succ id)) id 0 l c kx_new
  rw [updF_same] at this
  exact this

theorem ofBytes_ok : ∀ (l : List UInt8), VRL m K (l.map fun b => Value.int .u8 b.toNat) (ofBytes (l.map UInt8.toNat))
  | [] => .nil
  | _ :: l => .cons (.int _ _) (ofBytes_ok l)
theorem ofBytes_one : ∀ (l : List Nat), allOne (ofBytes l) = true
  | [] => rfl
  | _ :: l => ofBytes_one l

theorem s2b_ok (x : HR B m K h w) {s0 : TypeId} {e : TypeId} (hs : P.underlying s0 = some .string) (hd : P.underlying t = some (.slice e)) (he : P.underlying e = some (.int .u8)) {u : Value} {l : List Nat} (hu : VR m K u (.str l)) {id : Nat} (hid : ¬ K id) :
    Makes P B w (convert s0 t u) m K h id (ofBytes l) (.so id 0 (lenN l) 1) := by
  cases hu
  rename_i str hl
  have hrun := run_bytes_of_string (P := P) w s0 t e str hs hd he
  have hlen : lenN l = str.size := by rw [lenN_eq, ← hl, List.length_map, Array.length_toList]; rfl
  have hsz : (bytesRow str (grownCap w str.size 0 e)).size = grownCap w str.size 0 e := by
    have hge : str.size ≤ grownCap w str.size 0 e := by unfold grownCap Question.cut; exact Nat.le_add_right _ _
    have : str.data.size = str.size := rfl
    simp only [bytesRow, Array.size_append, Array.size_map, Array.size_replicate, this]
    omega
  have hvs : VRL m K (str.data.toList.map fun b => Value.int .u8 b.toNat) (ofBytes l) := by rw [← hl]; exact ofBytes_ok _
  refine ⟨_, _, _, hrun, ?_, ((x.keeps (Keeps.drew w)).allocP hid e _ hvs (ofBytes_one l) (fun j v hj => ?_) ?_ (.inl (Nat.le_refl _))).fromDrew⟩
  · have := VR.so (m := updF m id ⟨w.heap.size, 0, (bytesRow str (grownCap w str.size 0 e)).size⟩) (K := Kx K id (Nat.succ id)) id 0 str.size 1 (grownCap w str.size 0 e) kx_new (by omega) (by rw [updF_same]; simp [hsz])
    rw [updF_same] at this
    rw [hlen]
    exact this
  · have hj' : j < str.data.size := by have := (List.getElem?_eq_some_iff.1 hj).1; simpa using this
    unfold bytesRow
    rw [Array.getElem?_append_left (by simpa using hj')]
    simpa using hj
  · rw [← hvs.length, hsz]
    have hge : str.size ≤ grownCap w str.size 0 e := by unfold grownCap Question.cut; exact Nat.le_add_right _ _
    simp only [List.length_map, Array.length_toList]
    exact hge

theorem bytesOf_cons (v : AV) (l : List AV) {b : List Nat} (h : bytesOf (v :: l) = some b) : ∃ n r, v = .int .u8 (.ofNat n) ∧ n < 256 ∧ bytesOf l = some r ∧ b = n :: r := by
  unfold bytesOf at h
  simp only at h
  split at h
  · rename_i n
    cases hn : Nat.blt n 256 with
    | false => rw [hn] at h; cases h
    | true =>
      rw [hn] at h
      change Option.casesOn (motive := fun _ => Option (List Nat)) (bytesOf l) none (fun r => some (n :: r)) = some b at h
      cases hr : bytesOf l with
      | none => rw [hr] at h; cases h
      | some r => rw [hr] at h; cases h; exact ⟨n, r, rfl, nblt_iff.1 hn, rfl, rfl⟩
  · cases h
theorem bytesOf_spec : ∀ {l : List AV} {b : List Nat}, bytesOf l = some b → l = b.map (fun n => AV.int .u8 (Int.ofNat n)) ∧ ∀ n ∈ b, n < 256
  | [], b, h => by cases h; exact ⟨rfl, fun n hn => by cases hn⟩
  | v :: l, b, h => by
    obtain ⟨n, r, rfl, hn, hr, rfl⟩ := bytesOf_cons v l h
    obtain ⟨h1, h2⟩ := bytesOf_spec hr
    refine ⟨by rw [h1]; rfl, fun k hk => ?_⟩
    rcases List.mem_cons.1 hk with e | e
    · rw [e]; exact hn
    · exact h2 k e

theorem b2s_ok (x : HR B m K h w) {s : St} {a : AV} (hsub : ∀ id ∈ idOf a [], ∀ c, get s.heap id = some c → h id = some c) {d : TypeId} {e : TypeId} (hs : P.underlying t = some (.slice e)) (hd : P.underlying d = some .string) (he : P.underlying e = some (.int .u8)) {u : Value} (hu : VR m K u a)
    {s' : St} {c : AV} (hr : b2sR s a = .val c s') : s' = s ∧ Here P w (convert t d u) m K c := by
  have key : ∀ (id off n : Nat) (cap : Nat), a = .sl id off n cap ∨ (∃ z, a = .so id off n z) → u = .slice (some ⟨(m id).blk, (m id).base + off, none⟩) n cap →
      (orNo (get s.heap id) fun c => orNo (cellsAt c off n) fun l => orNo (bytesOf l) fun b => R.val (.str b) s) = .val c s' → s' = s ∧ Here P w (convert t d u) m K c := by
    intro id off n cap ha hue hr
    obtain ⟨c0, h1, h2⟩ := orNo_of hr (by simp)
    obtain ⟨l, h3, h4⟩ := orNo_of h2 (by simp)
    obtain ⟨b, h5, h6⟩ := orNo_of h4 (by simp)
    cases h6
    have hid : id ∈ idOf a [] := by rcases ha with rfl | ⟨z, rfl⟩ <;> exact List.mem_cons_self
    obtain ⟨us, g1, g2, g3, g4⟩ := x.read (hsub id hid c0 h1) h3
    obtain ⟨k1, k2⟩ := bytesOf_spec h5
    subst k1
    let bs : List UInt8 := b.map UInt8.ofNat
    have hbl : bs.length = n := by
      have := g2.length
      simp only [List.length_map] at this
      simp [bs]; omega
    refine ⟨rfl, .string ⟨bs.toArray⟩, ?_, .str _ _ ?_⟩
    · rw [hue, ← hbl]
      refine run_convert_bytes_back w t d e _ cap bs hs he hd fun j hj => ?_
      have hjb : j < b.length := by simpa [bs] using hj
      obtain ⟨v, e1, e2⟩ := g2.get j (.int .u8 (Int.ofNat b[j])) (by simp [hjb])
      cases e2
      rw [g4 j _ e1]
      have : b[j] < 256 := k2 _ (List.getElem_mem hjb)
      simp [bs]
      omega
    · simp only [bs, List.map_map]
      have : ∀ q ∈ b, (UInt8.toNat ∘ UInt8.ofNat) q = q := fun q hq => by
        have := k2 q hq
        simp; omega
      rw [List.map_congr_left this]
      simp
  cases hu <;> first | (cases hr; done) | skip
  · exact key _ _ _ _ (.inl rfl) rfl hr
  · exact key _ _ _ _ (.inr ⟨_, rfl⟩) rfl hr
  · cases hr
    exact ⟨rfl, .string .empty, by simp [convert, run_underlying hs, run_underlying hd, run_underlying he, Conv.bytesToString], .str _ _ rfl⟩
end
end Go.Pal
