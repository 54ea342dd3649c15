/-
  dev.Read where nothing waits: what the sector holds; of what was there nothing has turned.
-/
import Derived.RangeFuncBox
import Derived.RangeFuncFrom
import Derived.RangeFuncLeaves
import Derived.RangeFuncNested
import Derived.RangeFuncBound
import Derived.RangeFuncCalls
import Derived.Shelf.Abstract
import Derived.Shelf.RegionOpen
import Derived.WalkKit
import Derived.OwnWalkIn
import Derived.TacticsInMore
import Derived.LoopNIn
import Derived.LoopIn
import Derived.Test.YtmomgakmgafdeaaGreatDoorProg
namespace Go.Proofs
open Go.RowKit Go.Shelf
attribute [local go_sem] Oper.semAt_some

/-- What a slice of no element is. -/
def Tryz.noElems (x : Empty) : Array Value := nomatch x

set_option maxRecDepth 100000 in
set_option maxHeartbeats 2000000 in
theorem Tryz.back_stops (F : Fence) (n : Nat) (hf : F.fn 170) (hro : F.round = none) (n₀ b cap : Nat) (p : Option Addr) (w : World) (hbw : b < w.heap.size) (hb : w.cell? ⟨b, 0, none⟩ = some (.slice p 0 cap)) :
    SeqStopsK F n Tryz.prog 170 #[.pointer (some ⟨b, 0, none⟩)] Tryz.noElems (Below n₀) (fun xs => xs = []) (fun _ => False) 1 w := by
  intro l J Jx W hW hJ hJx hY h0
  show CallsIn F n Tryz.prog _ #[.func (.yield l) #[] #[], .pointer (some ⟨b, 0, none⟩)] W _
  have hbW : W.cell? ⟨b, 0, none⟩ = some (.slice p 0 cap) := (hW.cell (p := ⟨b, 0, none⟩) hbw).trans hb
  refine callsIn_of_wp Tryz.func170 rfl hf ?_ hro
  simp only [Tryz.ntmps170, List.size_toArray, List.length_cons, List.length_nil, Nat.reduceAdd, Nat.reduceSub, Array.replicate_succ, Array.replicate_zero, List.push_toArray, List.append_toArray, List.nil_append, List.cons_append]
  gi_wp2
  gi_loopw [3] (fun i wr => i = .int .i64 (-1) ∧ J [] wr) (fun _ _ => 0)
  case atStart => exact ⟨rfl, h0⟩
  case round =>
    obtain ⟨rfl, hJr⟩ := hrel
    gi_wp2
    go_end0
    exact ⟨⟨_, rfl⟩, .inl ⟨[], rfl, hJr⟩⟩

theorem Tryz.back_in (F : Fence) (n : Nat) (hf : F.fn 104) (hro : F.round = none) (p : Option Addr) (cap : Nat) (w : World) :
    CallsIn F n Tryz.prog 104 #[.slice p 0 cap] w fun e W' => e = .returned (.func (.func 170) #[] #[.pointer (some ⟨w.heap.size, 0, none⟩)]) ∧ W' = w.alloc (.cells #[.slice p 0 cap] 24) := by
  refine callsIn_of_wp Tryz.func104 rfl hf ?_ hro
  simp only [Tryz.ntmps104, List.size_toArray, List.length_cons, List.length_nil, Nat.reduceAdd, Nat.reduceSub, Array.replicate_succ, Array.replicate_zero, List.push_toArray, List.append_toArray, List.nil_append, List.cons_append]
  gi_wp2
  go_ret
  exact ⟨rfl, rfl⟩

set_option maxRecDepth 100000 in
set_option maxHeartbeats 4000000 in
theorem Tryz.has_in (F : Fence) (n : Nat) (hf : F.fn 103) (hro : F.round = none) (a : Option Addr) (len lc : Nat) (v1 v2 v3 v4 : Value) (i : Nat) (hi : i < len) (w : World) :
    CallsIn F n Tryz.prog 103 #[.agg #[.slice a len lc, v1, v2, v3, v4], .int .i64 i] w
      fun e W' => e = .returned (.bool true) ∧ W' = w.alloc (.cells #[.slice a len lc, v1, v2, v3, v4] 26) := by
  refine callsIn_of_wp Tryz.func103 rfl hf ?_ hro
  simp only [Tryz.ntmps103, List.size_toArray, List.length_cons, List.length_nil, Nat.reduceAdd, Nat.reduceSub, Array.replicate_succ, Array.replicate_zero, List.push_toArray, List.append_toArray, List.nil_append, List.cons_append]
  gi_wp2
  go_ret
  exact ⟨rfl, rfl⟩

set_option maxRecDepth 100000 in
set_option maxHeartbeats 4000000 in
theorem Tryz.read_in (F : Fence) (n : Nat) (h0 : F.fn 44) (h1 : F.fn 103) (h2 : F.fn 104) (h3 : F.fn 170) (hro : F.round = none) (hn : 3 ≤ n)
    (lb lo len lc cap : Nat) (p : Option Addr) (lies arm : Int) (i : Nat) (hi : i < len) (s : ByteArray) (w : World) (hlb : lb < w.heap.size) (hc : w.cell? ⟨lb, lo + i, none⟩ = some (.string s)) :
    CallsIn F n Tryz.prog 44 #[.agg #[.slice (some ⟨lb, lo, none⟩) len lc, .slice p 0 cap, .int .i64 lies, .int .i64 arm, .bool false], .int .i64 i] w
      fun e W' => e = .returned (.tuple #[.string s, .bool true]) ∧ Below w.heap.size w W' := by
  have hn1 : 1 ≤ n := by omega
  refine callsIn_of_wp_marks Tryz.func44 rfl h0 ?_ hro
  simp only [Tryz.ntmps44, List.size_toArray, List.length_cons, List.length_nil, Nat.reduceAdd, Nat.reduceSub, Array.replicate_succ, Array.replicate_zero, List.push_toArray, List.append_toArray, List.nil_append, List.cons_append]
  gi_wp2_with (first
    | (gi_at_call 103; refine (Tryz.has_in F (n - 1) h1 hro _ _ _ _ _ _ _ i hi _).mono ?_; rintro e w' ⟨rfl, rfl⟩)
    | (gi_at_call 104; refine (Tryz.back_in F (n - 1) h2 hro _ _ _).mono ?_; rintro e w' ⟨rfl, rfl⟩))
  obtain ⟨W0, hW0⟩ : ∃ W0 : World, ((((((w.alloc (.cells #[.slice (some ⟨lb, lo, none⟩) len lc, .slice p 0 cap, .int .i64 lies, .int .i64 arm, .bool false] 26)).alloc (.cells #[.int .i64 i] 3)).alloc (.cells #[.string ⟨#[]⟩] 9)).alloc (.cells #[.bool false] 4)).alloc (.cells #[.slice (some ⟨lb, lo, none⟩) len lc, .slice p 0 cap, .int .i64 lies, .int .i64 arm, .bool false] 26)).alloc (.cells #[.slice p 0 cap] 24)) = W0 := ⟨_, rfl⟩
  rw [hW0]
  have hsz : W0.heap.size = w.heap.size + 6 := by rw [← hW0]; simp
  have hB0 : Below w.heap.size w W0 := by
    rw [← hW0]
    exact ((((((Below.refl _ w).alloc (Nat.le_refl _) _).alloc (by simp) _).alloc (by simp; omega) _).alloc (by simp; omega) _).alloc (by simp; omega) _).alloc (by simp; omega) _
  have e0 : W0.cell? ⟨w.heap.size, 0, none⟩ = some (.slice (some ⟨lb, lo, none⟩) len lc) := by
    rw [← hW0]
    repeat rw [World.cell?_alloc_past _ _ _ (by simp only [World.size_alloc]; omega)]
    rw [World.cell?_alloc_at _ _ _ _ (by simp only [World.size_alloc])]
    rfl
  have e1 : W0.cell? ⟨w.heap.size + 1, 0, none⟩ = some (.int .i64 i) := by
    rw [← hW0]
    repeat rw [World.cell?_alloc_past _ _ _ (by simp only [World.size_alloc]; omega)]
    rw [World.cell?_alloc_at _ _ _ _ (by simp only [World.size_alloc])]
    rfl
  have e2 : W0.cell? ⟨w.heap.size + 1 + 1, 0, none⟩ = some (.string ⟨#[]⟩) := by
    rw [← hW0]
    repeat rw [World.cell?_alloc_past _ _ _ (by simp only [World.size_alloc]; omega)]
    rw [World.cell?_alloc_at _ _ _ _ (by simp only [World.size_alloc])]
    rfl
  have e3 : W0.cell? ⟨w.heap.size + 1 + 1 + 1, 0, none⟩ = some (.bool false) := by
    rw [← hW0]
    repeat rw [World.cell?_alloc_past _ _ _ (by simp only [World.size_alloc]; omega)]
    rw [World.cell?_alloc_at _ _ _ _ (by simp only [World.size_alloc])]
    rfl
  have e5 : W0.cell? ⟨w.heap.size + 1 + 1 + 1 + 1 + 1, 0, none⟩ = some (.slice p 0 cap) := by
    rw [← hW0]
    repeat rw [World.cell?_alloc_past _ _ _ (by simp only [World.size_alloc]; omega)]
    rw [World.cell?_alloc_at _ _ _ _ (by simp only [World.size_alloc])]
    rfl
  have f2 : W0.frozen? ⟨w.heap.size + 1 + 1, 0, none⟩ = false := by
    rw [← hW0]
    repeat rw [World.frozen?_alloc_old _ _ _ (by simp only [World.size_alloc]; omega)]
    rw [World.frozen?_alloc_at _ _ _ _ (by simp only [World.size_alloc])]
  have f3 : W0.frozen? ⟨w.heap.size + 1 + 1 + 1, 0, none⟩ = false := by
    rw [← hW0]
    repeat rw [World.frozen?_alloc_old _ _ _ (by simp only [World.size_alloc]; omega)]
    rw [World.frozen?_alloc_at _ _ _ _ (by simp only [World.size_alloc])]
  have ec : W0.cell? ⟨lb, lo + i, none⟩ = some (.string s) := (hB0.cell (p := ⟨lb, lo + i, none⟩) hlb).trans hc
  clear hW0 hc
  refine wpIn_rangeFunc_ownF hro hn1 (gf := 170) (lb := #[.pointer (some ⟨w.heap.size + 1 + 1 + 1 + 1 + 1, 0, none⟩)]) rfl h3 (enters_of Tryz.func170 (by kernel_rfl) rfl)
    (Tryz.back_stops F (n - 1) h3 hro w.heap.size (w.heap.size + 1 + 1 + 1 + 1 + 1) cap p W0 (by omega) e5) belowK_t (belowK_b (by omega)) (Below.refl _ _) (fun x => nomatch x)
    (fun pre W => (W.cell? ⟨w.heap.size, 0, none⟩ = some (.slice (some ⟨lb, lo, none⟩) len lc) ∧ W.cell? ⟨w.heap.size + 1, 0, none⟩ = some (.int .i64 i) ∧ W.cell? ⟨w.heap.size + 1 + 1, 0, none⟩ = some (.string ⟨#[]⟩) ∧ W.cell? ⟨w.heap.size + 1 + 1 + 1, 0, none⟩ = some (.bool false) ∧
      W.frozen? ⟨w.heap.size + 1 + 1, 0, none⟩ = false ∧ W.frozen? ⟨w.heap.size + 1 + 1 + 1, 0, none⟩ = false ∧ W.cell? ⟨lb, lo + i, none⟩ = some (.string s)) ∧ Below w.heap.size w W)
    (fun _ _ _ => False)
    (OwnFrom.and (Own.from (fun s A B row hs hg hr => ⟨cell_kept hs.1 hg hr, cell_kept hs.2.1 hg hr, cell_kept hs.2.2.1 hg hr, cell_kept hs.2.2.2.1 hg hr, (frozen_kept hs.2.2.1 hg hr).trans hs.2.2.2.2.1, (frozen_kept hs.2.2.2.1 hg hr).trans hs.2.2.2.2.2.1, cell_kept hs.2.2.2.2.2.2 hg hr⟩) _) (ownFrom_below (Nat.le_refl _) (by omega)))
    (fun _ _ _ _ _ hs _ _ => hs)
    ⟨⟨e0, e1, e2, e3, f2, f3, ec⟩, hB0⟩
    (fun x => nomatch x) ?assign ?body ?done ?stop
  case assign => intro l x; exact nomatch x
  case body => intro l pre x; exact nomatch x
  case stop =>
    rintro D c pre W _ _ h _
    exact h.elim
  case done =>
    rintro D ys W hD rfl ⟨⟨g0, g1, g2, g3, k2, k3, gc⟩, hB⟩ hK
    gi_wp2
    obtain ⟨W2, hW2⟩ : ∃ W2 : World, (W.setCell ⟨w.heap.size + 1 + 1, 0, none⟩ (.string s)).setCell ⟨w.heap.size + 1 + 1 + 1, 0, none⟩ (.bool true) = W2 := ⟨_, rfl⟩
    have hB2 : Below w.heap.size w W2 := by
      rw [← hW2]
      exact (hB.setCell (p := ⟨w.heap.size + 1 + 1, 0, none⟩) (by simp; omega) _).setCell (p := ⟨w.heap.size + 1 + 1 + 1, 0, none⟩) (by simp; omega) _
    have hK2 : W2.heap[D]? = some (.deferred (some [])) := by
      rw [← hW2, Below.heap_setCell _ _ _ _ (by simp; omega), Below.heap_setCell _ _ _ _ (by simp; omega)]
      exact hK
    have r2 : W2.cell? ⟨w.heap.size + 1 + 1, 0, none⟩ = some (.string s) := by
      rw [← hW2, World.cell?_setCell_other _ _ _ _ (by simp)]
      exact World.cell?_setCell_same' _ _ _ (by rw [g2]; rfl)
    have r3 : W2.cell? ⟨w.heap.size + 1 + 1 + 1, 0, none⟩ = some (.bool true) := by
      rw [← hW2]
      exact World.cell?_setCell_same' _ _ _ (by rw [World.cell?_setCell_other _ _ _ _ (by simp), g3]; rfl)
    rw [hW2]
    clear hW2
    refine ⟨by simp, .inl ⟨_, _, rfl, run_takeDeferred hK2, ?_⟩⟩
    have q2 : (W2.putObj D (.deferred none)).cell? ⟨w.heap.size + 1 + 1, 0, none⟩ = some (.string s) := cell_kept r2 (grownBy_putObj' _ D (.deferred none)) (fun r e => by cases e; exact ⟨_, hK2, rfl⟩)
    have q3 : (W2.putObj D (.deferred none)).cell? ⟨w.heap.size + 1 + 1 + 1, 0, none⟩ = some (.bool true) := cell_kept r3 (grownBy_putObj' _ D (.deferred none)) (fun r e => by cases e; exact ⟨_, hK2, rfl⟩)
    refine ⟨.tuple #[.string s, .bool true], ?_, rfl, hB2.trans (belowK_b (w := w) (Nat.le_refl _) W2 D _ _ (by omega) hK2 rfl rfl)⟩
    generalize W2.putObj D (.deferred none) = W3 at q2 q3 ⊢
    have l2 : (loadVar 9 ⟨w.heap.size + 1 + 1, 0, none⟩).run Tryz.prog W3 = .ok (.string s) W3 := by
      unfold loadVar
      simp [go_sem, Sem.run_bind, Tryz.isAgg9, q2]
    have l3 : (loadVar 4 ⟨w.heap.size + 1 + 1 + 1, 0, none⟩).run Tryz.prog W3 = .ok (.bool true) W3 := by
      unfold loadVar
      simp [go_sem, Sem.run_bind, Tryz.isAgg4, q3]
    simp [results, Tryz.f44, asAddr, Sem.run_bind, l2, l3]

set_option maxRecDepth 100000 in
set_option maxHeartbeats 4000000 in
theorem Tryz.read_down (v1 v2 v3 v4 : Value) (i : Int) (w : World) :
    Calls Tryz.prog 44 #[.agg #[v1, v2, v3, v4, .bool true], .int .i64 i] w fun e W' => e = .returned (.tuple #[.string ⟨#[]⟩, .bool false]) ∧ Below w.heap.size w W' := by
  go_enter Tryz.func44, Tryz.ntmps44
  go_wp2
  obtain ⟨W0, hW0⟩ : ∃ W0 : World, ((((w.alloc (.cells #[v1, v2, v3, v4, .bool true] 26)).alloc (.cells #[.int .i64 i] 3)).alloc (.cells #[.string ⟨#[]⟩] 9)).alloc (.cells #[.bool false] 4)) = W0 := ⟨_, rfl⟩
  rw [hW0]
  have hB0 : Below w.heap.size w W0 := by
    rw [← hW0]
    exact ((((Below.refl _ w).alloc (Nat.le_refl _) _).alloc (by simp only [World.size_alloc]; omega) _).alloc (by simp only [World.size_alloc]; omega) _).alloc (by simp only [World.size_alloc]; omega) _
  have e2 : W0.cell? ⟨w.heap.size + 1 + 1, 0, none⟩ = some (.string ⟨#[]⟩) := by
    rw [← hW0]
    repeat rw [World.cell?_alloc_past _ _ _ (by simp only [World.size_alloc]; omega)]
    rw [World.cell?_alloc_at _ _ _ _ (by simp only [World.size_alloc])]
    rfl
  have e3 : W0.cell? ⟨w.heap.size + 1 + 1 + 1, 0, none⟩ = some (.bool false) := by
    rw [← hW0]
    repeat rw [World.cell?_alloc_past _ _ _ (by simp only [World.size_alloc]; omega)]
    rw [World.cell?_alloc_at _ _ _ _ (by simp only [World.size_alloc])]
    rfl
  clear hW0
  have l2 : (loadVar 9 ⟨w.heap.size + 1 + 1, 0, none⟩).run Tryz.prog W0 = .ok (.string ⟨#[]⟩) W0 := by
    unfold loadVar
    simp [go_sem, Sem.run_bind, Tryz.isAgg9, e2]
  have l3 : (loadVar 4 ⟨w.heap.size + 1 + 1 + 1, 0, none⟩).run Tryz.prog W0 = .ok (.bool false) W0 := by
    unfold loadVar
    simp [go_sem, Sem.run_bind, Tryz.isAgg4, e3]
  refine bodyPost_ret (v := .tuple #[.string ⟨#[]⟩, .bool false]) ?_ rfl ⟨rfl, hB0⟩
  simp [results, Tryz.f44, asAddr, Sem.run_bind, l2, l3]

set_option maxRecDepth 100000 in
set_option maxHeartbeats 4000000 in
theorem Tryz.has_out (a : Option Addr) (len lc : Nat) (v1 v2 v3 v4 : Value) (i : Int) (hi : i < 0 ∨ len ≤ i) (w : World) :
    Calls Tryz.prog 103 #[.agg #[.slice a len lc, v1, v2, v3, v4], .int .i64 i] w
      fun e W' => e = .returned (.bool false) ∧ W' = w.alloc (.cells #[.slice a len lc, v1, v2, v3, v4] 26) := by
  by_cases h0 : 0 ≤ i
  · have h1 : ¬ i < len := by omega
    go_enter Tryz.func103, Tryz.ntmps103
    go_wp2
    go_ret
    exact ⟨rfl, rfl⟩
  · go_enter Tryz.func103, Tryz.ntmps103
    go_wp2
    go_ret
    exact ⟨rfl, rfl⟩

set_option maxRecDepth 100000 in
set_option maxHeartbeats 4000000 in
theorem Tryz.read_out (a p : Option Addr) (len lc n2 cap : Nat) (lies arm : Int) (i : Int) (hi : i < 0 ∨ len ≤ i) (w : World) :
    Calls Tryz.prog 44 #[.agg #[.slice a len lc, .slice p n2 cap, .int .i64 lies, .int .i64 arm, .bool false], .int .i64 i] w fun e W' => e = .returned (.tuple #[.string ⟨#[]⟩, .bool false]) ∧ Below w.heap.size w W' := by
  go_enter Tryz.func44, Tryz.ntmps44
  go_wp2_with (go_at_call 103; refine (Tryz.has_out _ _ _ _ _ _ _ i hi _).mono ?_; rintro e w' ⟨rfl, rfl⟩)
  obtain ⟨W0, hW0⟩ : ∃ W0 : World, (((((w.alloc (.cells #[.slice a len lc, .slice p n2 cap, .int .i64 lies, .int .i64 arm, .bool false] 26)).alloc (.cells #[.int .i64 i] 3)).alloc (.cells #[.string ⟨#[]⟩] 9)).alloc (.cells #[.bool false] 4)).alloc (.cells #[.slice a len lc, .slice p n2 cap, .int .i64 lies, .int .i64 arm, .bool false] 26)) = W0 := ⟨_, rfl⟩
  rw [hW0]
  have hB0 : Below w.heap.size w W0 := by
    rw [← hW0]
    exact (((((Below.refl _ w).alloc (Nat.le_refl _) _).alloc (by simp only [World.size_alloc]; omega) _).alloc (by simp only [World.size_alloc]; omega) _).alloc (by simp only [World.size_alloc]; omega) _).alloc (by simp only [World.size_alloc]; omega) _
  have e2 : W0.cell? ⟨w.heap.size + 1 + 1, 0, none⟩ = some (.string ⟨#[]⟩) := by
    rw [← hW0]
    repeat rw [World.cell?_alloc_past _ _ _ (by simp only [World.size_alloc]; omega)]
    rw [World.cell?_alloc_at _ _ _ _ (by simp only [World.size_alloc])]
    rfl
  have e3 : W0.cell? ⟨w.heap.size + 1 + 1 + 1, 0, none⟩ = some (.bool false) := by
    rw [← hW0]
    repeat rw [World.cell?_alloc_past _ _ _ (by simp only [World.size_alloc]; omega)]
    rw [World.cell?_alloc_at _ _ _ _ (by simp only [World.size_alloc])]
    rfl
  clear hW0
  have l2 : (loadVar 9 ⟨w.heap.size + 1 + 1, 0, none⟩).run Tryz.prog W0 = .ok (.string ⟨#[]⟩) W0 := by
    unfold loadVar
    simp [go_sem, Sem.run_bind, Tryz.isAgg9, e2]
  have l3 : (loadVar 4 ⟨w.heap.size + 1 + 1 + 1, 0, none⟩).run Tryz.prog W0 = .ok (.bool false) W0 := by
    unfold loadVar
    simp [go_sem, Sem.run_bind, Tryz.isAgg4, e3]
  refine bodyPost_ret (v := .tuple #[.string ⟨#[]⟩, .bool false]) ?_ rfl ⟨rfl, hB0⟩
  simp [results, Tryz.f44, asAddr, Sem.run_bind, l2, l3]
end Go.Proofs
