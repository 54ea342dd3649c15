/-
  Appending, copying, clearing.
-/
import Derived.Test.YtmomgakmgafdeaaGreatDoorPalMem3
namespace Go.Pal
open Go.RowKit

section
variable {P : Program} {B : Nat} {m : LM} {K : Nat → Prop} {h : HF} {w : World} {t e tx : TypeId} {te ti : TI}

/-- What an append does whose source yields n elements, these cells. -/
structure AppS (P : Program) (w : World) (t e tx : TypeId) (i : TypeInfo) (z v : Value) (n : Nat) (news : List Value) : Prop where
  len : news.length = n * i.size
  one : ∀ u ∈ news, u.oneCell' = true
  room : ∀ (ty : TypeId) (b off sLen sCap : Nat), sLen + n ≤ sCap → (∀ j, j < news.length → (w.cell? ⟨b, off + sLen * i.size + j, none⟩).isSome = true) → (∀ j, j < news.length → w.frozen? ⟨b, off + sLen * i.size + j, none⟩ = false) →
    (Builtin.append_ #[t, tx] ty #[.slice (some ⟨b, off, none⟩) sLen sCap, v]).run P w = .ok (.slice (some ⟨b, off, none⟩) (sLen + n) sCap) (w.setCells b (off + sLen * i.size) news)
  nil0 : ∀ (ty : TypeId), n = 0 → (Builtin.append_ #[t, tx] ty #[.slice none 0 0, v]).run P w = .ok (.slice none 0 0) w
  grow : ∀ (ty : TypeId) (base : Option Addr) (sLen sCap : Nat) (olds : List Value), (Builtin.firstCells i.size sLen (.slice base sLen sCap)).run P w.drew = .ok olds.toArray w.drew → sCap < sLen + n → sLen + n ≤ 2147483648 → i.bytes ≤ 4096 →
    (Builtin.append_ #[t, tx] ty #[.slice base sLen sCap, v]).run P w = .ok (.slice (some ⟨w.heap.size, 0, none⟩) (sLen + n) (grownCap w (sLen + n) sCap e))
      (w.drew.alloc (.cells ((olds ++ news).toArray ++ Builtin.zeroCells z.cells (grownCap w (sLen + n) sCap e - (sLen + n))) e))

theorem next_le {a b k : Nat} (hab : b < a) (ha : a ≤ 2147483648) (hk : k ≤ 4096) : Builtin.nextslicecap a b * k ≤ 281474976710656 := by
  have h1 : Builtin.nextslicecap a b ≤ 68719476736 := by
    unfold Builtin.nextslicecap
    rw [growBy_four]
    repeat' split
    all_goals omega
  calc Builtin.nextslicecap a b * k ≤ 68719476736 * 4096 := Nat.mul_le_mul h1 hk
    _ = 281474976710656 := by rfl

theorem AppS.ofSrc (ht : P.underlying t = some (.slice e)) {i : TypeInfo} {z : Value} (hi : P.info? e = some i) (hz : i.zero = some z) {v : Value} {n : Nat} {news : List Value} (hs : Src P i.size tx v n news w) : AppS P w t e tx i z v n news := by
  refine ⟨hs.newsLen, hs.one, fun ty b off sLen sCap h1 h2 h3 => run_append_room_src w t tx ty e i ht hi b off sLen sCap v n news hs h1 h2 h3, fun ty hn => ?_, fun ty base sLen sCap olds h1 h2 h3 h4 => ?_⟩
  · subst hn
    rcases hs.kind with ⟨e', hk⟩ | hk <;> simp [Builtin.append_, run_underlying ht, run_underlying hk, sizeOf, typeInfo, hi, hs.len, hs.cells]
  · exact run_append_grow_src w t tx ty e i z ht hi hz base sLen sCap olds h1 v n news hs h2 (by omega) (next_le h2 h3 h4)

theorem AppS.ofZeros (ht : P.underlying t = some (.slice e)) {kx : IntKind} (hk : P.underlying tx = some (.int kx)) {i : TypeInfo} {z : Value} (hi : P.info? e = some i) (hz : i.zero = some z) (hzs : z.cells.size = i.size) (hpos : 0 < i.size) (hby : i.bytes ≤ 4096) (hone : ∀ u ∈ z.cells.toList, u.oneCell' = true) {k : IntKind} {n : Nat} (hn : n ≤ 1073741824) :
    AppS P w t e tx i z (.int k (Int.ofNat n)) n ((List.replicate n z.cells.toList).flatten) := by
  have hwrap : IntKind.i64.wrap (Int.ofNat n) = (n : Int) := by
    have e0 : Int.ofNat n = (n : Int) := rfl
    rw [e0, IntKind.wrap_i64]; omega
  have hzc : Builtin.zeroCells z.cells n = ⟨(List.replicate n z.cells.toList).flatten⟩ := zeros_eq z.cells n (by omega)
  have hb1 : n * i.bytes ≤ 1073741824 * 4096 := Nat.mul_le_mul hn hby
  have hb2 : ((n : Int) * (i.bytes : Int)) ≤ 4398046511104 := by
    have := Int.natCast_mul n i.bytes
    omega
  have n1 : ¬ ((n : Int) < 0) := by omega
  have n2 : ¬ (281474976710656 < (n : Int) * (i.bytes : Int)) := by omega
  have hlen : ((List.replicate n z.cells.toList).flatten).length = n * i.size := by simp [hzs]
  have hnil : n * i.size = 0 → (List.replicate n z.cells.toList).flatten = [] := fun h0 => by
    rw [← hlen] at h0
    exact List.length_eq_zero_iff.1 h0
  have h1 : ∀ u ∈ (List.replicate n z.cells.toList).flatten, u.oneCell' = true := fun u hu => by
    obtain ⟨l, hl, hu⟩ := List.mem_flatten.1 hu
    rw [List.eq_of_mem_replicate hl] at hu
    exact hone u hu
  have hs0 : i.size ≠ 0 := by omega
  have hw0 : IntKind.i64.wrap 0 = 0 := rfl
  have hw1 : IntKind.i64.wrap (n : Int) = (n : Int) := hwrap
  refine ⟨hlen, h1, fun ty b off sLen sCap g1 g2 g3 => ?_, fun ty g0 => ?_, fun ty base sLen sCap olds g1 g2 g3 g4 => ?_⟩
  · have hst := run_storeCells_cells (P := P) b (off + sLen * i.size) _ 0 w (by simpa using g2) (by simpa using g3) h1
    simp only [Nat.add_zero] at hst
    by_cases h0 : n = 0 <;> have hm0 : n ≠ 0 → ¬ (n * i.size = 0) := fun hne h => by { rcases Nat.mul_eq_zero.1 h with h | h <;> omega }
    · subst h0
      have g1' : sLen ≤ sCap := g1
      simp [Builtin.append_, run_underlying ht, run_underlying hk, sizeOf, typeInfo, hi, asInt, asIntOf, hw0, g1', Addr.add_lit, storeCells]
      rfl
    · simp [Builtin.append_, run_underlying ht, run_underlying hk, sizeOf, typeInfo, hi, asInt, asIntOf, hw1, n1, n2, g1, hm0 h0, Addr.add_lit, zeroValue, hz, hzc, hst]
  · subst g0
    simp [Builtin.append_, run_underlying ht, run_underlying hk, sizeOf, typeInfo, hi, asInt, asIntOf, hw0]
  · have c1 : ¬ (sLen + n ≤ sCap) := by omega
    have c2 : ¬ (9223372036854775807 < ((sLen : Int) + (n : Int))) := by omega
    have c3 : ¬ (281474976710656 < Builtin.nextslicecap (sLen + n) sCap * i.bytes) := by
      have := next_le g2 g3 g4; omega
    have hold := g1
    by_cases h0 : n = 0 <;> have hm0 : n ≠ 0 → ¬ (n * i.size = 0) := fun hne h => by { rcases Nat.mul_eq_zero.1 h with h | h <;> omega }
    · subst h0
      have c1' : ¬ (sLen ≤ sCap) := c1
      have c2' : ¬ (9223372036854775807 < (sLen : Int)) := by omega
      have c3' : ¬ (281474976710656 < Builtin.nextslicecap sLen sCap * i.bytes) := c3
      simp [Builtin.append_, run_underlying ht, run_underlying hk, sizeOf, typeInfo, zeroValue, hi, hz, asInt, asIntOf, hw0, c1', c2', c3', Question.forced, hold, newRow, grownCap]
    · simp [Builtin.append_, run_underlying ht, run_underlying hk, sizeOf, typeInfo, zeroValue, hi, hz, asInt, asIntOf, hw1, n1, n2, c1, c2, c3, hm0 h0, Question.forced, hold, newRow, grownCap, hzc]
      congr 2
      apply Array.ext'
      simp [List.append_assoc]
end
end Go.Pal
