/-
  Numbers and texts: what the small code's own functions come to.
-/
import Derived.Test.YtmomgakmgafdeaaGreatDoorPalRun
import Derived.IntWalk
namespace Go.Pal
open Go.RowKit

theorem blt_cases (a b : Nat) : (Nat.blt a b = true ∧ a < b) ∨ (Nat.blt a b = false ∧ ¬ a < b) := by
  cases e : Nat.blt a b with
  | true => exact .inl ⟨rfl, nblt_iff.1 e⟩
  | false => exact .inr ⟨rfl, fun h => by rw [nblt_iff.2 h] at e; cases e⟩
theorem ble_cases (a b : Nat) : (Nat.ble a b = true ∧ a ≤ b) ∨ (Nat.ble a b = false ∧ ¬ a ≤ b) := by
  cases e : Nat.ble a b with
  | true => exact .inl ⟨rfl, nble_iff.1 e⟩
  | false => exact .inr ⟨rfl, fun h => by rw [nble_iff.2 h] at e; cases e⟩
theorem wr_eq (k : IntKind) (n : Int) : wr k n = k.wrap n := by
  cases n with
  | ofNat m =>
    show wrn k m = k.wrap (Int.ofNat m)
    unfold wrn
    cases k
    case i64 =>
      show (bif Nat.blt m 9223372036854775808 then Int.ofNat m else IntKind.wrap .i64 (Int.ofNat m)) = _
      rcases blt_cases m 9223372036854775808 with ⟨e, hm⟩ | ⟨e, hm⟩
      · rw [e, cond_true]
        exact (IntWalk.i64_in _ (by constructor <;> simp <;> omega)).symm
      · rw [e, cond_false]
    case u8 => show ((m % 256 : Nat) : Int) = IntKind.wrap .u8 (m : Int); rw [IntKind.wrap_u8]; omega
    case u32 => show ((m % 4294967296 : Nat) : Int) = IntKind.wrap .u32 (m : Int); rw [IntKind.wrap_u32]; omega
    case u64 => show ((m % 18446744073709551616 : Nat) : Int) = IntKind.wrap .u64 (m : Int); rw [IntKind.wrap_u64]; omega
    case i8 => show IntKind.wrap .i8 (Int.ofNat m) = _; with_reducible rfl
    case i16 => show IntKind.wrap .i16 (Int.ofNat m) = _; with_reducible rfl
    case i32 => show IntKind.wrap .i32 (Int.ofNat m) = _; with_reducible rfl
    case u16 => show IntKind.wrap .u16 (Int.ofNat m) = _; with_reducible rfl
  | negSucc m =>
    show wrm k m = k.wrap (Int.negSucc m)
    unfold wrm
    cases k
    case i64 =>
      show (bif Nat.blt m 9223372036854775808 then Int.negSucc m else IntKind.wrap .i64 (Int.negSucc m)) = _
      rcases blt_cases m 9223372036854775808 with ⟨e, hm⟩ | ⟨e, hm⟩
      · rw [e, cond_true]
        exact (IntWalk.i64_in _ (by constructor <;> omega)).symm
      · rw [e, cond_false]
    case i8 => show IntKind.wrap .i8 (Int.negSucc m) = _; with_reducible rfl
    case i16 => show IntKind.wrap .i16 (Int.negSucc m) = _; with_reducible rfl
    case i32 => show IntKind.wrap .i32 (Int.negSucc m) = _; with_reducible rfl
    case u8 => show IntKind.wrap .u8 (Int.negSucc m) = _; with_reducible rfl
    case u16 => show IntKind.wrap .u16 (Int.negSucc m) = _; with_reducible rfl
    case u32 => show IntKind.wrap .u32 (Int.negSucc m) = _; with_reducible rfl
    case u64 => show IntKind.wrap .u64 (Int.negSucc m) = _; with_reducible rfl
theorem eqI_eq (a b : Int) : eqI a b = (a == b) := by
  cases a <;> cases b <;> simp only [eqI]
  · rw [nbeq_eq]; rw [Bool.eq_iff_iff]; simp; omega
  · rfl
  · rfl
  · rw [nbeq_eq]; rw [Bool.eq_iff_iff]; simp
theorem ltI_eq (a b : Int) : ltI a b = decide (a < b) := by
  cases a <;> cases b <;> simp only [ltI]
  · rw [Bool.eq_iff_iff, nblt_iff]; simp
  · rw [Bool.eq_iff_iff]; simp; omega
  · rw [Bool.eq_iff_iff]; simp; omega
  · rw [Bool.eq_iff_iff, nblt_iff]; simp; omega
theorem kno_inj {k k' : IntKind} (h : Nat.beq (kno k) (kno k') = true) : k = k' := by
  cases k <;> cases k' <;> first | rfl | (exact absurd (nbeq_iff.1 h) (by decide))
theorem p2k_eq (k : IntKind) : p2k k = 2 ^ k.bits := by cases k <;> rfl
theorem bitk_eq (k : IntKind) : bitk k = k.bits := by cases k <;> rfl
theorem shN_eq (k : IntKind) (n : Nat) : shN k n = min n k.bits := by
  unfold shN
  rw [bitk_eq]
  by_cases h : n ≤ k.bits
  · rw [nble_iff.2 h, cond_true]; omega
  · have : Nat.ble n k.bits = false := by
      cases e : Nat.ble n k.bits with
      | false => rfl
      | true => exact absurd (nble_iff.1 e) h
    rw [this, cond_false]; omega

/-- The value of a vInt, a vBool. -/
theorem vInt_val {k : IntKind} {n : Int} {s : St} : vInt k n s = .val (.int k n) s := by
  unfold vInt
  cases n with
  | ofNat m => cases m <;> rfl
  | negSucc m => cases m <;> rfl
theorem vBool_val {b : Bool} {s : St} : vBool b s = .val (.bool b) s := by cases b <;> rfl

theorem toNat_inj {x y : List UInt8} : x.map UInt8.toNat = y.map UInt8.toNat ↔ x = y := by
  constructor
  · intro h
    induction x generalizing y with
    | nil => cases y with
      | nil => rfl
      | cons _ _ => cases h
    | cons a x ih => cases y with
      | nil => cases h
      | cons b y =>
        simp only [List.map_cons, List.cons.injEq] at h
        rw [UInt8.toNat_inj.1 h.1, ih h.2]
  · intro h; rw [h]
theorem beq_bytes (x y : List UInt8) : (x.map UInt8.toNat == y.map UInt8.toNat) = (x == y) := by
  rw [Bool.eq_iff_iff]; simp [toNat_inj]
theorem ltN_bytes : ∀ (x y : List UInt8), ltN (x.map UInt8.toNat) (y.map UInt8.toNat) = Op.bytesLess x y
  | [], [] => rfl
  | [], _ :: _ => rfl
  | _ :: _, [] => rfl
  | a :: x, b :: y => by
    have e : ltN ((a :: x).map UInt8.toNat) ((b :: y).map UInt8.toNat) = (bif Nat.blt a.toNat b.toNat then true else bif Nat.beq a.toNat b.toNat then ltN (x.map UInt8.toNat) (y.map UInt8.toNat) else false) := rfl
    rw [e, ltN_bytes x y, show Op.bytesLess (a :: x) (b :: y) = (decide (a < b) || (a == b && Op.bytesLess x y)) from rfl]
    by_cases h1 : a.toNat < b.toNat
    · rw [nblt_iff.2 h1]
      have : a < b := h1
      simp [this]
    · have h1' : Nat.blt a.toNat b.toNat = false := by
        cases e : Nat.blt a.toNat b.toNat with
        | false => rfl
        | true => exact absurd (nblt_iff.1 e) h1
      have h2 : ¬ a < b := h1
      rw [h1', cond_false]
      by_cases h3 : a = b
      · subst h3; simp
      · have h4 : a.toNat ≠ b.toNat := fun e => h3 (UInt8.toNat_inj.1 e)
        rw [nbeq_ne h4]
        simp [h2, h3]
end Go.Pal
