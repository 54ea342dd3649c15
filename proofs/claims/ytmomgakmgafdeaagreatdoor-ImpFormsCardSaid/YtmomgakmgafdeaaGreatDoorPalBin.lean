/-
  The operators.
-/
import Derived.Test.YtmomgakmgafdeaaGreatDoorPalNum
namespace Go.Pal
open Go.RowKit

theorem cond_no {c : Bool} {r : R} {v : AV} {s' : St} (h : (bif c then r else .no) = .val v s') : c = true ∧ r = .val v s' := by
  cases c with
  | true => exact ⟨rfl, h⟩
  | false => cases h
theorem vInt_of {k : IntKind} {n : Int} {s s' : St} {v : AV} (h : vInt k n s = .val v s') : v = .int k n ∧ s' = s := by
  rw [vInt_val] at h; cases h; exact ⟨rfl, rfl⟩
theorem vBool_of {b : Bool} {s s' : St} {v : AV} (h : vBool b s = .val v s') : v = .bool b ∧ s' = s := by
  rw [vBool_val] at h; cases h; exact ⟨rfl, rfl⟩

section
variable {P : Program} {m : LM} {K : Nat → Prop}

/-- What an operator's row comes to: a value, in the world that it got. -/
def Gives (P : Program) (x : Sem Value) (m : LM) (K : Nat → Prop) (v : AV) : Prop := ∃ u, (∀ w, x.run P w = .ok u w) ∧ VR m K u v

theorem bits_nat (k : IntKind) (a : Nat) : (BitVec.ofInt k.bits (Int.ofNat a)).toNat = a % p2k k := by
  rw [p2k_eq, BitVec.toNat_ofInt]
  have : (Int.ofNat a % ((2 ^ k.bits : Nat) : Int)) = ((a % 2 ^ k.bits : Nat) : Int) := by simp
  rw [this]; rfl

theorem binII_ok (t : TypeId) (x y : Operand) {op : BinOp} {o : B2} (hop : cOp op = some o) (hs : o ≠ .shl) (hs' : o ≠ .shr) (k : IntKind) (a b : Int) {s s' : St} {v : AV} (h : binII o k a b s = .val v s') :
    s' = s ∧ Gives P (do eqGuard op t x y (.int k a) (.int k b); binOp op t (.int k a) (.int k b)) m K v := by
  cases op <;> cases hop
  case add =>
    obtain ⟨rfl, rfl⟩ := vInt_of (show vInt k (wr k (a + b)) s = _ from h)
    exact ⟨rfl, _, fun w => by simp [go_sem, Op.intArith]; rfl, by rw [wr_eq]; exact .int _ _⟩
  case sub =>
    obtain ⟨rfl, rfl⟩ := vInt_of (show vInt k (wr k (a - b)) s = _ from h)
    exact ⟨rfl, _, fun w => by simp [go_sem, Op.intArith]; rfl, by rw [wr_eq]; exact .int _ _⟩
  case mul =>
    obtain ⟨rfl, rfl⟩ := vInt_of (show vInt k (wr k (a * b)) s = _ from h)
    exact ⟨rfl, _, fun w => by simp [go_sem, Op.intArith]; rfl, by rw [wr_eq]; exact .int _ _⟩
  case quo =>
    have h' : (bif eqI b 0 then R.no else vInt k (wr k (a.tdiv b)) s) = .val v s' := h
    rw [eqI_eq] at h'
    by_cases hb : b = 0
    · subst hb; simp at h'
    · have : (b == 0) = false := by simpa using hb
      rw [this] at h'
      obtain ⟨rfl, rfl⟩ := vInt_of h'
      exact ⟨rfl, _, fun w => by simp [go_sem, Op.intDiv, hb]; rfl, by rw [wr_eq]; exact .int _ _⟩
  case rem =>
    have h' : (bif eqI b 0 then R.no else vInt k (a.tmod b) s) = .val v s' := h
    rw [eqI_eq] at h'
    by_cases hb : b = 0
    · subst hb; simp at h'
    · have : (b == 0) = false := by simpa using hb
      rw [this] at h'
      obtain ⟨rfl, rfl⟩ := vInt_of h'
      exact ⟨rfl, _, fun w => by simp [go_sem, Op.intDiv, hb], .int _ _⟩
  case and =>
    have h' : onNats a b (fun m n => vInt k (wr k (.ofNat (Nat.land (Nat.mod m (p2k k)) (Nat.mod n (p2k k))))) s) = .val v s' := h
    cases a <;> cases b <;> first | (cases h'; done) | skip
    rename_i a b
    obtain ⟨rfl, rfl⟩ := vInt_of h'
    refine ⟨rfl, .int k (k.wrap ((BitVec.ofInt k.bits (Int.ofNat a) &&& BitVec.ofInt k.bits (Int.ofNat b)).toNat)), fun w => by rw [eqGuard_and, binOp_and]; rfl, ?_⟩
    rw [wr_eq, BitVec.toNat_and, bits_nat, bits_nat]
    exact .int _ _
  case or =>
    have h' : onNats a b (fun m n => vInt k (wr k (.ofNat (Nat.lor (Nat.mod m (p2k k)) (Nat.mod n (p2k k))))) s) = .val v s' := h
    cases a <;> cases b <;> first | (cases h'; done) | skip
    rename_i a b
    obtain ⟨rfl, rfl⟩ := vInt_of h'
    refine ⟨rfl, .int k (k.wrap ((BitVec.ofInt k.bits (Int.ofNat a) ||| BitVec.ofInt k.bits (Int.ofNat b)).toNat)), fun w => by rw [eqGuard_or, binOp_or]; rfl, ?_⟩
    rw [wr_eq, BitVec.toNat_or, bits_nat, bits_nat]
    exact .int _ _
  case xor =>
    have h' : onNats a b (fun m n => vInt k (wr k (.ofNat (Nat.xor (Nat.mod m (p2k k)) (Nat.mod n (p2k k))))) s) = .val v s' := h
    cases a <;> cases b <;> first | (cases h'; done) | skip
    rename_i a b
    obtain ⟨rfl, rfl⟩ := vInt_of h'
    refine ⟨rfl, .int k (k.wrap ((BitVec.ofInt k.bits (Int.ofNat a) ^^^ BitVec.ofInt k.bits (Int.ofNat b)).toNat)), fun w => by rw [eqGuard_xor, binOp_xor]; rfl, ?_⟩
    rw [wr_eq, BitVec.toNat_xor, bits_nat, bits_nat]
    exact .int _ _
  case shl => exact absurd rfl hs
  case shr => exact absurd rfl hs'
  case eql =>
    obtain ⟨rfl, rfl⟩ := vBool_of (show vBool (eqI a b) s = _ from h)
    exact ⟨rfl, _, fun w => by simp [go_sem]; rfl, by rw [eqI_eq]; exact .bool _⟩
  case neq =>
    obtain ⟨rfl, rfl⟩ := vBool_of (show vBool (!eqI a b) s = _ from h)
    exact ⟨rfl, _, fun w => by simp [go_sem]; rfl, by rw [eqI_eq]; exact .bool _⟩
  case lss =>
    obtain ⟨rfl, rfl⟩ := vBool_of (show vBool (ltI a b) s = _ from h)
    exact ⟨rfl, _, fun w => by simp [go_sem]; rfl, by rw [ltI_eq]; exact .bool _⟩
  case leq =>
    obtain ⟨rfl, rfl⟩ := vBool_of (show vBool (!ltI b a) s = _ from h)
    refine ⟨rfl, _, fun w => by simp only [go_sem, Sem.run_bind, Sem.run_pure, Result.andThen_ok]; rfl, ?_⟩
    rw [ltI_eq, show (!decide (b < a)) = decide (a ≤ b) by rw [Bool.eq_iff_iff]; simp]; exact .bool _
  case gtr =>
    obtain ⟨rfl, rfl⟩ := vBool_of (show vBool (ltI b a) s = _ from h)
    refine ⟨rfl, _, fun w => by simp only [go_sem, Sem.run_bind, Sem.run_pure, Result.andThen_ok]; rfl, ?_⟩
    rw [ltI_eq]; exact .bool _
  case geq =>
    obtain ⟨rfl, rfl⟩ := vBool_of (show vBool (!ltI a b) s = _ from h)
    refine ⟨rfl, _, fun w => by simp only [go_sem, Sem.run_bind, Sem.run_pure, Result.andThen_ok]; rfl, ?_⟩
    rw [ltI_eq, show (!decide (a < b)) = decide (a ≥ b) by rw [Bool.eq_iff_iff]; simp]; exact .bool _

theorem ofNat_nonneg (n : Nat) : ¬ (Int.ofNat n < 0) := by simp
theorem shl_ok (t : TypeId) (x y : Operand) (k k' : IntKind) (a b : Int) {s s' : St} {v : AV} (h : shl k a b s = .val v s') :
    s' = s ∧ Gives P (do eqGuard .shl t x y (.int k a) (.int k' b); binOp .shl t (.int k a) (.int k' b)) m K v := by
  cases b with
  | negSucc n => cases h
  | ofNat n =>
    obtain ⟨rfl, rfl⟩ := vInt_of (show vInt k (wr k (Int.mul a (.ofNat (Nat.pow 2 (shN k n))))) s = _ from h)
    refine ⟨rfl, _, fun w => by simp only [go_sem, Op.shift, Sem.run_bind, Sem.run_pure, Result.andThen_ok, if_neg (ofNat_nonneg n)]; rfl, ?_⟩
    rw [wr_eq, shN_eq]
    have : (Int.ofNat ((2 : Nat).pow (min n k.bits))) = (2 : Int) ^ (min (Int.ofNat n).toNat k.bits) := by
      show (((2 : Nat) ^ (min n k.bits) : Nat) : Int) = _
      simp
    rw [this]
    exact .int _ _
theorem shr_ok (t : TypeId) (x y : Operand) (k k' : IntKind) (a b : Int) {s s' : St} {v : AV} (h : shr k a b s = .val v s') :
    s' = s ∧ Gives P (do eqGuard .shr t x y (.int k a) (.int k' b); binOp .shr t (.int k a) (.int k' b)) m K v := by
  cases a with
  | negSucc n => cases b <;> cases h
  | ofNat a => cases b with
    | negSucc n => cases h
    | ofNat n =>
      obtain ⟨rfl, rfl⟩ := vInt_of (show vInt k (.ofNat (Nat.div a (Nat.pow 2 (shN k n)))) s = _ from h)
      refine ⟨rfl, _, fun w => by simp only [go_sem, Op.shift, Sem.run_bind, Sem.run_pure, Result.andThen_ok, if_neg (ofNat_nonneg n)]; rfl, ?_⟩
      rw [shN_eq]
      have : (Int.ofNat (Nat.div a (Nat.pow 2 (min n k.bits)))) = (Int.ofNat a).fdiv ((2 : Int) ^ (min (Int.ofNat n).toNat k.bits)) := by
        show ((a / 2 ^ (min n k.bits) : Nat) : Int) = Int.fdiv (a : Int) ((2 : Int) ^ (min n k.bits))
        rw [Int.fdiv_eq_ediv_of_nonneg _ (by exact Int.le_of_lt (Int.pow_pos (by decide)))]
        simp
      rw [this]
      exact .int _ _

theorem binI_ok (t : TypeId) (x y : Operand) {op : BinOp} {o : B2} (hop : cOp op = some o) (k k' : IntKind) (a b : Int) {s s' : St} {v : AV} (h : binI o k a k' b s = .val v s') :
    s' = s ∧ Gives P (do eqGuard op t x y (.int k a) (.int k' b); binOp op t (.int k a) (.int k' b)) m K v := by
  by_cases e1 : o = .shl
  · subst e1
    cases op <;> cases hop
    exact shl_ok t x y k k' a b h
  by_cases e2 : o = .shr
  · subst e2
    cases op <;> cases hop
    exact shr_ok t x y k k' a b h
  have h' : (bif Nat.beq (kno k) (kno k') then binII o k a b s else .no) = .val v s' := by
    cases o <;> first | exact h | exact absurd rfl e1 | exact absurd rfl e2
  obtain ⟨hk, h2⟩ := cond_no h'
  obtain rfl := kno_inj hk
  exact binII_ok t x y hop e1 e2 k a b h2

theorem binS_ok (t : TypeId) (x y : Operand) {op : BinOp} {o : B2} (hop : cOp op = some o) (a b : ByteArray) {la lb : List Nat} (ha : a.data.toList.map UInt8.toNat = la) (hb : b.data.toList.map UInt8.toNat = lb) {s s' : St} {v : AV} (h : binS o la lb s = .val v s') :
    s' = s ∧ Gives P (do eqGuard op t x y (.string a) (.string b); binOp op t (.string a) (.string b)) m K v := by
  subst ha; subst hb
  cases op <;> cases hop <;> first | (cases h; done) | skip
  case add =>
    obtain ⟨h1, h2⟩ := cond_no (show (bif Nat.ble (Nat.add (lenN _) (lenN _)) 1073741824 then R.val (.str (appN _ _)) s else .no) = _ from h)
    cases h2
    have hsz := nble_iff.1 h1
    rw [lenN_eq, lenN_eq] at hsz
    replace hsz : (a.data.toList.map UInt8.toNat).length + (b.data.toList.map UInt8.toNat).length ≤ 1073741824 := hsz
    have hsz' : a.size + b.size ≤ 1073741824 := by
      have e : ∀ c : ByteArray, (c.data.toList.map UInt8.toNat).length = c.size := fun c => by rw [List.length_map, Array.length_toList]; rfl
      have := e a; have := e b
      omega
    refine ⟨rfl, .string (a ++ b), fun w => ?_, .str _ _ (by rw [appN_eq, ← List.map_append]; congr 1)⟩
    simp only [go_sem, Sem.run_bind, Sem.run_pure, Result.andThen_ok]
    simp
    omega
  case eql =>
    obtain ⟨rfl, rfl⟩ := vBool_of (show vBool (beqN _ _) s = _ from h)
    refine ⟨rfl, .bool (a.toList == b.toList), fun w => by simp [go_sem, binOp, Op.stringOp], ?_⟩
    rw [beqN_eq, beq_bytes, ByteArray.toList_eq, ByteArray.toList_eq]
    exact .bool _
  case neq =>
    obtain ⟨rfl, rfl⟩ := vBool_of (show vBool (!beqN _ _) s = _ from h)
    refine ⟨rfl, .bool (!(a.toList == b.toList)), fun w => by simp [go_sem, binOp, Op.stringOp], ?_⟩
    rw [beqN_eq, beq_bytes, ByteArray.toList_eq, ByteArray.toList_eq]
    exact .bool _
  case lss =>
    obtain ⟨rfl, rfl⟩ := vBool_of (show vBool (ltN _ _) s = _ from h)
    refine ⟨rfl, .bool (Op.bytesLess a.toList b.toList), fun w => by simp [go_sem, binOp, Op.stringOp], ?_⟩
    rw [ltN_bytes, ByteArray.toList_eq, ByteArray.toList_eq]
    exact .bool _
end
end Go.Pal
