/-
  The heap of layer 19 in memory, and the walks of its swap and its last one.
-/
import Derived.Test.YtfnjomhefklbiaaPickW
import Derived.BigRegion
namespace Go.Proofs.Ytfnjomhefklbiaa
open Go.RowKit

/-- Only the blocks p and g have turned, and new ones have come. -/
structure Only2 (p g : Nat) (w w' : World) : Prop where
  os : w'.os = w.os
  tape : w'.tape = w.tape
  output : w'.output = w.output
  size : w.heap.size ≤ w'.heap.size
  block : ∀ k, k < w.heap.size → k ≠ p → k ≠ g → w'.heap[k]? = w.heap[k]?
theorem Only2.refl (p g : Nat) (w : World) : Only2 p g w w := ⟨rfl, rfl, rfl, Nat.le_refl _, fun _ _ _ _ => rfl⟩
theorem Only2.trans {p g : Nat} {a b c : World} (h : Only2 p g a b) (k : Only2 p g b c) : Only2 p g a c :=
  ⟨k.os.trans h.os, k.tape.trans h.tape, k.output.trans h.output, Nat.le_trans h.size k.size, fun i hi h1 h2 => (k.block i (Nat.lt_of_lt_of_le hi h.size) h1 h2).trans (h.block i hi h1 h2)⟩
theorem Only2.drewN {p g : Nat} {a b : World} (h : Only2 p g a b) (n : Nat) : Only2 p g a (b.drewN n) := ⟨h.os, h.tape, h.output, h.size, h.block⟩
theorem Only2.drew {p g : Nat} {a b : World} (h : Only2 p g a b) : Only2 p g a b.drew := ⟨h.os, h.tape, h.output, h.size, h.block⟩
theorem Only2.alloc {p g : Nat} {a b : World} (h : Only2 p g a b) (o : Obj) : Only2 p g a (b.alloc o) :=
  h.trans ⟨rfl, rfl, rfl, by simp, fun k hk _ _ => Below.heap_alloc _ _ _ hk⟩
theorem Only2.setCell {p g : Nat} {a b : World} (h : Only2 p g a b) {x : Addr} (hx : x.block = p ∨ x.block = g) (v : Value) : Only2 p g a (b.setCell x v) :=
  h.trans ⟨rfl, rfl, rfl, by simp, fun k _ h1 h2 => Below.heap_setCell _ _ _ _ (by rcases hx with e | e <;> rw [e] <;> assumption)⟩
theorem Only2.below {p g B : Nat} {a b : World} (h : Only2 p g a b) (hp : B ≤ p) (hg : B ≤ g) (hB : B ≤ a.heap.size) : Below B a b :=
  ⟨h.os, h.tape, h.output, h.size, fun k hk => h.block k (by omega) (by omega) (by omega)⟩
theorem Only2.cell {p g : Nat} {a b : World} (h : Only2 p g a b) {x : Addr} {v : Value} (hp : x.block ≠ p) (hg : x.block ≠ g) (hc : a.cell? x = some v) : b.cell? x = some v :=
  (World.cell?_of_block (h.block x.block (World.block_lt_of_cell? a x hc) hp hg)).trans hc

/-- The heap: its header at block p, its places in block g. -/
structure HeapAt (p g cap : Nat) (l : List (Int × Int)) (w : World) : Prop where
  head : w.cell? ⟨p, 0, none⟩ = some (.slice (some ⟨g, 0, none⟩) l.length cap)
  free : ∀ o, w.frozen? ⟨p, o, none⟩ = false
  ne : g ≠ p
  fits : l.length ≤ cap ∧ cap ≤ 9223372036854775807
  cells : ∀ i (h : i < l.length), w.cell? ⟨g, i * 2, none⟩ = some (.int .i64 l[i].1) ∧ w.cell? ⟨g, i * 2 + 1, none⟩ = some (.int .i64 l[i].2)
  gfree : ∀ o, w.frozen? ⟨g, o, none⟩ = false
theorem HeapAt.drewN {p g cap : Nat} {l : List (Int × Int)} {w : World} (h : HeapAt p g cap l w) (n : Nat) : HeapAt p g cap l (w.drewN n) := ⟨h.head, h.free, h.ne, h.fits, h.cells, h.gfree⟩
theorem HeapAt.drew {p g cap : Nat} {l : List (Int × Int)} {w : World} (h : HeapAt p g cap l w) : HeapAt p g cap l w.drew := ⟨h.head, h.free, h.ne, h.fits, h.cells, h.gfree⟩

/-- Two places of a list changed. -/
def swapL (l : List (Int × Int)) (i k : Nat) : List (Int × Int) := (l.set i (l.getD k (0, 0))).set k (l.getD i (0, 0))
theorem swapL_length (l : List (Int × Int)) (i k : Nat) : (swapL l i k).length = l.length := by simp [swapL]
theorem swapL_get (l : List (Int × Int)) (i k j : Nat) (hi : i < l.length) (hk : k < l.length) (hj : j < (swapL l i k).length) :
    (swapL l i k)[j] = if j = k then l[i] else if j = i then l[k] else l[j]'(by rwa [swapL_length] at hj) := by
  simp only [swapL, List.getElem_set, List.getD, List.getElem?_eq_getElem hi, List.getElem?_eq_getElem hk, Option.getD_some]
  by_cases h1 : j = k
  · subst h1; simp
  · by_cases h2 : j = i
    · subst h2; simp [h1, Ne.symm h1]
    · simp [h1, h2, Ne.symm h1, Ne.symm h2]

theorem step_cell {w : World} {g o o' : Nat} {v u : Value} (h : w.cell? ⟨g, o', none⟩ = some u) : (w.setCell ⟨g, o, none⟩ v).cell? ⟨g, o', none⟩ = some (if o' = o then v else u) := by
  by_cases e : o' = o
  · subst e; rw [if_pos rfl]; exact World.cell?_setCell_same _ _ _ h
  · rw [if_neg e, World.cell?_setCell_other _ _ _ _ (fun x => e (congrArg Addr.off x).symm)]; exact h
theorem far_cell {w : World} {g p o o' : Nat} {v u : Value} (hne : g ≠ p) (h : w.cell? ⟨p, o', none⟩ = some u) : (w.setCell ⟨g, o, none⟩ v).cell? ⟨p, o', none⟩ = some u := by
  rw [World.cell?_setCell_other _ _ _ _ (fun x => hne (congrArg Addr.block x))]; exact h

/-- Four stores into a row, two elements changed. -/
theorem swap_world {p g cap : Nat} {l : List (Int × Int)} {w : World} (h : HeapAt p g cap l w) {i k : Nat} (hi : i < l.length) (hk : k < l.length) :
    HeapAt p g cap (swapL l i k) ((((w.setCell ⟨g, i * 2, none⟩ (.int .i64 l[k].1)).setCell ⟨g, i * 2 + 1, none⟩ (.int .i64 l[k].2)).setCell ⟨g, k * 2, none⟩ (.int .i64 l[i].1)).setCell ⟨g, k * 2 + 1, none⟩ (.int .i64 l[i].2)) := by
  have hne := h.ne
  refine ⟨?_, ?_, h.ne, by rw [swapL_length]; exact h.fits, ?_, ?_⟩
  · rw [swapL_length]
    exact far_cell hne (far_cell hne (far_cell hne (far_cell hne h.head)))
  · intro o; simp only [World.frozen?_setCell]; exact h.free o
  · intro j hj
    have hj' : j < l.length := by rwa [swapL_length] at hj
    rw [swapL_get l i k j hi hk hj]
    obtain ⟨c0, c1⟩ := h.cells j hj'
    have e0 := step_cell (o := k * 2 + 1) (v := .int .i64 l[i].2) (step_cell (o := k * 2) (v := .int .i64 l[i].1) (step_cell (o := i * 2 + 1) (v := .int .i64 l[k].2) (step_cell (o := i * 2) (v := .int .i64 l[k].1) c0)))
    have e1 := step_cell (o := k * 2 + 1) (v := .int .i64 l[i].2) (step_cell (o := k * 2) (v := .int .i64 l[i].1) (step_cell (o := i * 2 + 1) (v := .int .i64 l[k].2) (step_cell (o := i * 2) (v := .int .i64 l[k].1) c1)))
    rw [e0, e1]
    by_cases h1 : j = k
    · subst h1
      constructor <;> (repeat' split) <;> first | rfl | (exfalso; omega)
    · by_cases h2 : j = i
      · subst h2
        constructor <;> (repeat' split) <;> first | rfl | (exfalso; omega)
      · constructor <;> (repeat' split) <;> first | rfl | (exfalso; omega)
  · intro o; simp only [World.frozen?_setCell]; exact h.gfree o

set_option maxHeartbeats 1000000 in
theorem places_swap (p g cap : Nat) (l : List (Int × Int)) (i k : Nat) (w : World) (h : HeapAt p g cap l w) (hi : i < l.length) (hk : k < l.length) (hik : i ≠ k) :
    Calls Try.prog 59 #[.slice (some ⟨g, 0, none⟩) l.length cap, .int .i64 i, .int .i64 k] w fun e w' => e = .returned (.tuple #[]) ∧ HeapAt p g cap (swapL l i k) w' ∧ Only2 p g w w' := by
  obtain ⟨ca, cb⟩ := h.cells i hi
  obtain ⟨da, db⟩ := h.cells k hk
  have hf := h.gfree
  have hi0 : (0 : Int) ≤ (i : Int) := Int.natCast_nonneg _
  have hi1 : (i : Int) < (l.length : Int) := by omega
  have hk0 : (0 : Int) ≤ (k : Int) := Int.natCast_nonneg _
  have hk1 : (k : Int) < (l.length : Int) := by omega
  go_enter Try.func59, Try.ntmps59
  go_wp2_with fail
  go_region
  go_wp2_with fail
  go_end0
  exact ⟨rfl, (swap_world h hi hk).drew, ((((((Only2.refl p g w).setCell (Or.inr rfl) _).setCell (Or.inr rfl) _).setCell (Or.inr rfl) _).setCell (Or.inr rfl) _)).drew⟩


set_option maxHeartbeats 1000000 in
theorem places_swap_same (p g cap : Nat) (l : List (Int × Int)) (i : Nat) (w : World) (h : HeapAt p g cap l w) (hi : i < l.length) :
    Calls Try.prog 59 #[.slice (some ⟨g, 0, none⟩) l.length cap, .int .i64 i, .int .i64 i] w fun e w' => e = .returned (.tuple #[]) ∧ HeapAt p g cap (swapL l i i) w' ∧ Only2 p g w w' := by
  obtain ⟨ca, cb⟩ := h.cells i hi
  have hf := h.gfree
  have hi0 : (0 : Int) ≤ (i : Int) := Int.natCast_nonneg _
  have hi1 : (i : Int) < (l.length : Int) := by omega
  go_enter Try.func59, Try.ntmps59
  go_wp2_with fail
  go_region
  go_wp2_with fail
  go_end0
  exact ⟨rfl, (swap_world h hi hi).drew, ((((((Only2.refl p g w).setCell (Or.inr rfl) _).setCell (Or.inr rfl) _).setCell (Or.inr rfl) _).setCell (Or.inr rfl) _)).drew⟩

theorem places_swap_any (p g cap : Nat) (l : List (Int × Int)) (i k : Nat) (w : World) (h : HeapAt p g cap l w) (hi : i < l.length) (hk : k < l.length) :
    Calls Try.prog 59 #[.slice (some ⟨g, 0, none⟩) l.length cap, .int .i64 i, .int .i64 k] w fun e w' => e = .returned (.tuple #[]) ∧ HeapAt p g cap (swapL l i k) w' ∧ Only2 p g w w' := by
  by_cases e : i = k
  · subst e; exact places_swap_same p g cap l i w h hi
  · exact places_swap p g cap l i k w h hi hk e

theorem HeapAt.alloc {p g cap : Nat} {l : List (Int × Int)} {w : World} (h : HeapAt p g cap l w) (hg : g < w.heap.size) (o : Obj) : HeapAt p g cap l (w.alloc o) := by
  have hp := World.block_lt_of_cell? w _ h.head
  refine ⟨cell_past o h.head, fun i => ?_, h.ne, h.fits, fun i hi => ⟨cell_past o (h.cells i hi).1, cell_past o (h.cells i hi).2⟩, fun i => ?_⟩
  · exact (World.frozen?_alloc_old _ _ _ (by show p ≠ _; exact Nat.ne_of_lt hp)).trans (h.free i)
  · exact (World.frozen?_alloc_old _ _ _ (by show g ≠ _; exact Nat.ne_of_lt hg)).trans (h.gfree i)
theorem pop_world {p g cap : Nat} {l : List (Int × Int)} {x : Int × Int} {w : World} (h : HeapAt p g cap (l ++ [x]) w) : HeapAt p g cap l (w.setCell ⟨p, 0, none⟩ (.slice (some ⟨g, 0, none⟩) l.length cap)) := by
  have hf := h.fits
  rw [List.length_append, List.length_singleton] at hf
  refine ⟨World.cell?_setCell_same _ _ _ h.head, fun o => by rw [World.frozen?_setCell]; exact h.free o, h.ne, by omega, fun i hi => ?_, fun o => by rw [World.frozen?_setCell]; exact h.gfree o⟩
  have hc := h.cells i (by simp; omega)
  rw [List.getElem_append_left hi] at hc
  exact ⟨far_cell h.ne.symm hc.1, far_cell h.ne.symm hc.2⟩

set_option maxHeartbeats 1000000 in
theorem places_pop (p g cap : Nat) (l : List (Int × Int)) (x : Int × Int) (w : World) (h : HeapAt p g cap (l ++ [x]) w) :
    Calls Try.prog 58 #[.pointer (some ⟨p, 0, none⟩)] w fun e w' => e = .returned (.iface 73 (.agg #[.int .i64 x.1, .int .i64 x.2])) ∧ HeapAt p g cap l w' ∧ Only2 p g w w' := by
  have hd := h.head
  have hf := h.free 0
  have hfit := h.fits
  obtain ⟨c0, c1⟩ := h.cells l.length (by simp)
  rw [List.length_append, List.length_singleton] at hd hfit
  simp only [List.getElem_append_right (Nat.le_refl _), Nat.sub_self, List.getElem_cons_zero] at c0 c1
  obtain ⟨hfit1, hfit2⟩ := hfit
  have hp := World.block_lt_of_cell? w _ hd
  have hn := h.ne
  go_enter Try.func58, Try.ntmps58
  go_wp2_with fail
  go_ret
  exact ⟨rfl, (pop_world h).alloc (by rw [World.size_setCell]; exact World.block_lt_of_cell? w _ c0) _, ((Only2.refl p g w).setCell (Or.inl rfl) _).alloc _⟩

end Go.Proofs.Ytfnjomhefklbiaa
