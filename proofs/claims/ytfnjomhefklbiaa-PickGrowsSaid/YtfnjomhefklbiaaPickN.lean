/-
  The walk of pick.heaped: the counts as a heap.
-/
import Derived.Test.YtfnjomhefklbiaaPickI
import Derived.Maps.AppendAt
namespace Go.Proofs.Ytfnjomhefklbiaa
open Go.RowKit

/-- A slice of ints that is only read. -/
abbrev IntsAt (w : World) (ao : Option Addr) (l : List Int) : Prop := SlAt (fun x : Int => [Value.int .i64 x]) 1 w ao l
/-- Each place and its count. -/
def pairs (l : List Int) : List (Int × Int) := l.zipIdx.map fun q => ((q.2 : Int), q.1)
theorem pairs_length (l : List Int) : (pairs l).length = l.length := by simp [pairs]
theorem pairs_get (l : List Int) (i : Nat) (h : i < (pairs l).length) : (pairs l)[i] = ((i : Int), l[i]'(by rwa [pairs_length] at h)) := by simp [pairs]
theorem pairs_snoc (l : List Int) (i : Nat) (h : i < l.length) : pairs (l.take (i + 1)) = pairs (l.take i) ++ [((i : Int), l[i])] := by
  rw [List.take_succ_eq_append_getElem h]
  have : (l.take i).length = i := by rw [List.length_take]; omega
  simp only [pairs, List.zipIdx_append, List.map_append, this, Nat.zero_add]
  rfl
def cellsP (l : List (Int × Int)) : List Value := l.flatMap fun q => [.int .i64 q.1, .int .i64 q.2]
theorem cellsP_snoc (l : List (Int × Int)) (q : Int × Int) : cellsP (l ++ [q]) = cellsP l ++ [.int .i64 q.1, .int .i64 q.2] := by simp [cellsP]
theorem cellsP_get : ∀ (l : List (Int × Int)) (i : Nat) (h : i < l.length), (cellsP l)[i * 2]? = some (.int .i64 l[i].1) ∧ (cellsP l)[i * 2 + 1]? = some (.int .i64 l[i].2)
  | [], i, h => by simp at h
  | q :: l, 0, _ => by simp [cellsP]
  | q :: l, i + 1, h => by
    have := cellsP_get l i (by simpa using h)
    rw [show (i + 1) * 2 + 1 = (i * 2 + 1) + 2 by omega, show (i + 1) * 2 = i * 2 + 2 by omega]
    simpa [cellsP] using this
theorem cellsP_length (l : List (Int × Int)) : (cellsP l).length = l.length * 2 := by
  induction l with
  | nil => rfl
  | cons q l ih => simp [cellsP] at *; omega

/-- The places so far: the header at the block p. -/
structure HeadAt (w0 : World) (p : Nat) (l : List (Int × Int)) (v : Value) (wr : World) : Prop where
  own : wr.ownsRow (p + 1) 73 2 v l.length (cellsP l)
  head : wr.cell? ⟨p, 0, none⟩ = some v
  free : ∀ o, wr.frozen? ⟨p, o, none⟩ = false
  below : Below p w0 wr
  size : p < wr.heap.size

theorem HeadAt.heap {w0 : World} {p : Nat} {l : List (Int × Int)} {v : Value} {wr : World} (h : HeadAt w0 p l v wr) (hl : 0 < l.length) : ∃ g c, p < g ∧ HeapAt p g c l wr := by
  have hown := h.own
  rcases hown.2 with ⟨_, hn⟩ | ⟨g, cap, cur, hv, hb, hg, hnc, hcm, hcs, htake⟩
  · omega
  · subst hv
    refine ⟨g, cap, by omega, h.head, h.free, by omega, ⟨hnc, by simpa [maxLen] using hcm⟩, fun i hi => ?_, fun o => hown.frozenAt o⟩
    have := cellsP_get l i hi
    exact ⟨(hown.cellAt (i * 2) (by omega)).trans this.1, (hown.cellAt (i * 2 + 1) (by omega)).trans this.2⟩

theorem place_info : (Try.prog.info? 73).map (fun i => (i.zero, i.size, i.bytes)) = some (some (.agg #[.int .i64 0, .int .i64 0]), 2, 16) := by kernel_rfl

theorem cell_two_new (w : World) (x y : Value) (t : TypeId) : ∀ j u, [x, y][j]? = some u → (w.alloc (.cells #[x, y] t)).cell? ((⟨w.heap.size, 0, none⟩ : Addr).add j) = some u := by
  intro j u hj
  match j, hj with
  | 0, hj => simp at hj; subst hj; simp [Addr.add]
  | 1, hj => simp at hj; subst hj; simp [Addr.add]

theorem two_oneCell (x y : Int) : ∀ u ∈ [Value.int .i64 x, .int .i64 y], u.oneCell' = true := by
  intro u hu
  simp only [List.mem_cons, List.not_mem_nil, or_false] at hu
  rcases hu with rfl | rfl <;> rfl
theorem _root_.Go.World.ownsRow.slice {w : World} {base : Nat} {e : TypeId} {size : Nat} {v : Value} {n : Nat} {xs : List Value} (h : w.ownsRow base e size v n xs) (hn : 0 < n) : ∃ g cap, v = .slice (some ⟨g, 0, none⟩) n cap := by
  rcases h.2 with ⟨_, hn'⟩ | ⟨g, cap, cur, hv, _⟩
  · omega
  · exact ⟨g, cap, hv⟩
theorem HeadAt.start (w : World) (t : TypeId) (l : List Int) : HeadAt w w.heap.size (pairs (l.take 0)) (.slice none 0 0) (w.alloc (.cells #[.slice none 0 0] t)) :=
  ⟨World.ownsRow_nil _ _ _ _, by simp, fun o => by simp, (Below.refl _ _).alloc (Nat.le_refl _) _, by simp⟩
theorem HeadAt.old {w0 : World} {p : Nat} {l : List (Int × Int)} {v : Value} {wr : World} (h : HeadAt w0 p l v wr) (q : Int × Int) (t : TypeId) {v' : Value} {w1 : World}
    (_hown : w1.ownsRow (p + 1) 73 2 v' (l.length + 1) (cellsP l ++ [.int .i64 q.1, .int .i64 q.2])) (hgrow : (wr.alloc (.cells #[.int .i64 q.1, .int .i64 q.2] t)).grownBy w1 v.ownBlock) :
    w1.cell? ⟨p, 0, none⟩ = some v ∧ w1.frozen? ⟨p, 0, none⟩ = false := by
  have hne : v.ownBlock ≠ some p := fun e => by have := (h.own.lt p e).1; omega
  have hp := h.size
  have hblk : w1.heap[p]? = wr.heap[p]? := (hgrow.block p (by simp; omega) (fun e => hne e.symm)).trans (Below.heap_alloc _ _ _ hp)
  exact ⟨(World.cell?_of_block hblk).trans h.head, (World.frozen?_of_block hblk).trans (h.free 0)⟩
theorem HeadAt.more {w0 : World} {p : Nat} {l : List (Int × Int)} {v : Value} {wr : World} (h : HeadAt w0 p l v wr) (q : Int × Int) (t : TypeId) {v' : Value} {w1 : World}
    (hown : w1.ownsRow (p + 1) 73 2 v' (l.length + 1) (cellsP l ++ [.int .i64 q.1, .int .i64 q.2])) (hgrow : (wr.alloc (.cells #[.int .i64 q.1, .int .i64 q.2] t)).grownBy w1 v.ownBlock) :
    HeadAt w0 p (l ++ [q]) v' (w1.setCell ⟨p, 0, none⟩ v') := by
  have hne : v.ownBlock ≠ some p := fun e => by have := (h.own.lt p e).1; omega
  have hne' : v'.ownBlock ≠ some p := fun e => by have := (hown.lt p e).1; omega
  have hp := h.size
  have hblk : w1.heap[p]? = wr.heap[p]? := (hgrow.block p (by simp; omega) (fun e => hne e.symm)).trans (Below.heap_alloc _ _ _ hp)
  have hcp : w1.cell? ⟨p, 0, none⟩ = some v := (World.cell?_of_block hblk).trans h.head
  have hsz : p < w1.heap.size := Nat.lt_of_lt_of_le hp (Nat.le_trans (by simp) hgrow.size)
  refine ⟨?_, World.cell?_setCell_same _ _ _ hcp, fun o => ?_, ?_, by rw [World.size_setCell]; exact hsz⟩
  · rw [cellsP_snoc, List.length_append, List.length_singleton]
    exact hown.kept (row := some p) ⟨rfl, rfl, rfl, by simp, fun k _ hk => Below.heap_setCell _ _ _ _ (fun e => hk (by rw [e]))⟩ (Or.inr hne')
  · rw [World.frozen?_setCell]
    exact (World.frozen?_of_block hblk).trans (h.free o)
  · have hb1 : Below p wr w1 := ⟨hgrow.os, hgrow.tape, hgrow.output, Nat.le_trans (by simp) hgrow.size, fun k hk => (hgrow.block k (by simp; omega) (fun e => by have := (h.own.lt k e.symm).1; omega)).trans (Below.heap_alloc _ _ _ (by omega))⟩
    exact h.below.trans (hb1.trans ⟨rfl, rfl, rfl, by simp, fun k hk => Below.heap_setCell _ _ _ _ (by show k ≠ p; omega)⟩)

set_option maxHeartbeats 1000000 in
theorem heaped_any (ao : Option Addr) (cap : Nat) (l : List Int) (w : World) (hs : IntsAt w ao l) (h0 : 0 < l.length) (hl : l.length ≤ 1000000) :
    Calls Try.prog 33 #[.slice ao l.length cap] w fun e w' => ∃ p g c, e = .returned (.pointer (some ⟨p, 0, none⟩)) ∧ HeapAt p g c (initL l.length (l.length / 2) (pairs l)) w' ∧ w.heap.size ≤ p ∧ p < g ∧ Below w.heap.size w w' := by
  obtain ⟨b, off, rfl, hb, hc⟩ := hs.at h0
  obtain ⟨i0, hi, hz0, hz1, hz2⟩ := info_parts place_info
  go_enter Try.func33, Try.ntmps33
  go_wp2_with fail
  go_loopw [8] (fun i wr => ∃ (k : Nat) (v : Value), i = .int .i64 k ∧ k ≤ l.length ∧ HeadAt w w.heap.size (pairs (l.take k)) v wr) (fun i _ => l.length - (intOf i).toNat)
  case atStart => exact ⟨0, _, rfl, Nat.zero_le _, HeadAt.start _ _ _⟩
  case round =>
    obtain ⟨k, v, rfl, hk, hH⟩ := hrel
    have hlen : (pairs (l.take k)).length = k := by rw [pairs_length, List.length_take]; omega
    have hsz := hH.size
    by_cases hkl : k < l.length
    · have hck := hH.below.cell (p := ⟨b, off + k * 1 + 0, none⟩) hb
      rw [hc k hkl 0 _ rfl, Nat.mul_one, Nat.add_zero] at hck
      have hk0 : (0 : Int) ≤ (k : Int) := Int.natCast_nonneg _
      have hk1 : (k : Int) < (l.length : Int) := by omega
      have hhd := hH.head
      have hfr := hH.free 0
      have hsn := Lib.hid (pairs_snoc l k hkl)
      go_wp2_with (at_builtin; refine wpList_append_own_at _ rfl _ _ 80 rfl (w.heap.size + 1) 73 i0 (.agg #[.int .i64 0, .int .i64 0]) 2 16 Try.underlying80 hi hz0 hz1 hz2 rfl (by decide) v (pairs (l.take k)).length _ rfl (hH.own.alloc _) ⟨wr.heap.size, 0, none⟩ 1 1 [.int .i64 k, .int .i64 l[k]] rfl rfl (cell_two_new _ _ _ _) (two_oneCell _ _) (by rw [hlen]; unfold maxLen; omega) (by rw [hlen]; omega) (by simp; omega) ?_; intro v' w1 hown' hgrow hnil hat; have hM := hH.more (k, l[k]) _ hown' hgrow; obtain ⟨hw1c, hw1f⟩ := hH.old (k, l[k]) _ hown' hgrow; rcases hown'.slice (by omega) with ⟨g', c', rfl⟩; rw [hlen] at hM)
      go_roundw
      case rel => exact ⟨k + 1, _, by go_num, by omega, by rw [hsn.out]; exact hM⟩
      case measure => simp [intOf]; omega
    · have hk' : k = l.length := by omega
      subst hk'
      rw [List.take_length] at hH hlen
      obtain ⟨g, c, hpg, HH⟩ := hH.heap (by omega)
      go_wp2_with fail
      have hcall := init_any _ g c _ wr HH (by omega)
      rw [pairs_length] at hcall
      refine hcall.mono ?_
      rintro e w1 ⟨rfl, H1, hO1⟩
      go_wp2_with fail
      go_ret
      exact ⟨_, g, c, rfl, H1, Nat.le_refl _, hpg, hH.below.trans (hO1.below (Nat.le_refl _) (by omega) (by omega))⟩

end Go.Proofs.Ytfnjomhefklbiaa
