/-
  What all texts above use: worlds that kept what was there; the least and the greatest of two; a list turned; a list grown from behind.
-/
import Derived.Test.YtcjeonamebnpfaaCloneU
import Derived.Test.YtcjeonamebnpfaaOrd
import Derived.Laws.AppendOwnNone
import Derived.Lib.Walk
import Derived.Deep.RegionHeld3
import Derived.Deep.DrawnRows
namespace Go.Proofs.Ytcjeonamebnpfaa
open Go.RowKit

theorem own_below {w w' : World} {B : Nat} {E : TypeId} {k : Nat} {v : Value} {n : Nat} {xs : List Value} (h : w.ownsRow B E k v n xs) (hb : Below w.heap.size w w') : w'.ownsRow B E k v n xs :=
  h.kept (row := none) ⟨hb.os, hb.tape, hb.output, hb.size, fun i hi _ => hb.block i hi⟩ (by cases hv : v.ownBlock <;> simp)
theorem below_same {B : Nat} {w w' : World} (h : Below w.heap.size w w') (hB : B ≤ w.heap.size) : Below B w w' := h.mono hB
def bmax (a b : Int) : Int := if b > a then b else a
theorem run_bmax {P : Program} (ts : Array TypeId) (t : TypeId) (a b : Int) (w : World) : (Builtin.max_ ts t #[.int .i64 a, .int .i64 b]).run P w = .ok (.int .i64 (bmax a b)) w := by rw [run_max_int2]; rfl
theorem bmax_nat (a b : Nat) : bmax (a : Int) (b : Int) = ((max a b : Nat) : Int) := by unfold bmax; split <;> omega
theorem cell_drew {w : World} {a : Addr} {v : Value} (h : w.cell? a = some v) : w.drew.cell? a = some v := h
theorem frozen_drew {w : World} {a : Addr} {x : Bool} (h : w.frozen? a = x) : w.drew.frozen? a = x := h
theorem far_block {w : World} {b b' o o' : Nat} {v u : Value} (h : b ≠ b') (hc : w.cell? ⟨b, o, none⟩ = some v) : (w.setCell ⟨b', o', none⟩ u).cell? ⟨b, o, none⟩ = some v :=
  (World.cell?_of_block (Below.heap_setCell _ _ _ _ h)).trans hc
theorem SlAt.cells4 {w : World} {ao : Option Addr} {l : List Upd} (hs : SlAt Upd.cells 4 w ao l) (i : Nat) (hi : i < l.length) :
    ∃ b off, ao = some ⟨b, off, none⟩ ∧ b < w.heap.size ∧ w.cell? ⟨b, off + i * 4, none⟩ = some (.int .u8 l[i].kind) ∧ w.cell? ⟨b, off + i * 4 + 1, none⟩ = some (.string (S l[i].key)) ∧ w.cell? ⟨b, off + i * 4 + 2, none⟩ = some (.string (S l[i].val)) ∧ w.cell? ⟨b, off + i * 4 + 3, none⟩ = some (.int .u64 l[i].delta) := by
  obtain ⟨b, off, rfl, hb, hc⟩ := hs.at (by omega)
  obtain ⟨h0, h1, h2, h3⟩ := updCells hc i hi
  exact ⟨b, off, rfl, hb, h0, h1, h2, h3⟩
theorem cell_below {B : Nat} {w w' : World} (h : Below B w w') {b : Nat} (hb : b < B) (o : Nat) : w'.cell? ⟨b, o, none⟩ = w.cell? ⟨b, o, none⟩ := World.cell?_of_block (h.block b hb)
theorem kept_cell {w w' : World} {b o : Nat} {v : Value} (hb : Below w.heap.size w w') (h : w.cell? ⟨b, o, none⟩ = some v) : w'.cell? ⟨b, o, none⟩ = some v :=
  ((bcell hb).1 b o (World.block_lt_of_cell? w _ h)).trans h
theorem snoc_ind {α : Type} {Q : List α → Prop} (h0 : Q []) (h1 : ∀ us u, Q us → Q (us ++ [u])) (l : List α) : Q l := by
  have h : ∀ r : List α, Q r.reverse := by
    intro r
    induction r with
    | nil => exact h0
    | cons a r ih => rw [List.reverse_cons]; exact h1 _ _ ih
  have := h l.reverse
  rwa [List.reverse_reverse] at this
/-- The list from another place on, round. -/
def rotL (F : List Upd) (t k : Nat) : List Upd := (List.range k).map fun i => F[(i + t) % F.length]?.getD ⟨0, [], [], 0⟩
theorem rotL_snoc (F : List Upd) (t k : Nat) (h : (k + t) % F.length < F.length) : rotL F t (k + 1) = rotL F t k ++ [F[(k + t) % F.length]] := by
  unfold rotL
  rw [List.range_succ, List.map_append]
  simp [h]
theorem rotL_all (F : List Upd) (t : Nat) : rotL F t F.length = F.drop (t % F.length) ++ F.take (t % F.length) := by
  by_cases h0 : F.length = 0
  · have : F = [] := List.eq_nil_of_length_eq_zero h0
    subst this
    simp [rotL]
  have ht : t % F.length < F.length := Nat.mod_lt _ (by omega)
  apply List.ext_getElem
  · simp only [rotL, List.length_map, List.length_range, List.length_append, List.length_drop, List.length_take]
    omega
  · intro i h1 h2
    have hi : i < F.length := by simpa [rotL] using h1
    have e : (i + t) % F.length = if i < F.length - t % F.length then i + t % F.length else i + t % F.length - F.length := by
      rw [Nat.add_mod, Nat.mod_eq_of_lt hi]
      split
      · exact Nat.mod_eq_of_lt (by omega)
      · rw [Nat.mod_eq_sub_mod (by omega), Nat.mod_eq_of_lt (by omega)]
    simp only [rotL, List.getElem_map, List.getElem_range]
    rw [List.getElem_append]
    simp only [List.length_drop]
    split
    · rename_i hlt
      rw [e, if_pos hlt, List.getElem_drop, List.getElem?_eq_getElem (by omega)]
      simp only [Option.getD_some]
      congr 1
      omega
    · rename_i hlt
      rw [e, if_neg hlt, List.getElem_take, List.getElem?_eq_getElem (by omega)]
      simp only [Option.getD_some]
      congr 1
      omega
theorem rotL_perm (F : List Upd) (t : Nat) : (rotL F t F.length).Perm F := by
  rw [rotL_all]
  have := List.perm_append_comm (l₁ := F.drop (t % F.length)) (l₂ := F.take (t % F.length))
  rw [List.take_append_drop] at this
  exact this
theorem rotL_mem {F : List Upd} {t k : Nat} (h0 : 0 < F.length) {x : Upd} (hx : x ∈ rotL F t k) : x ∈ F := by
  unfold rotL at hx
  obtain ⟨i, -, rfl⟩ := List.mem_map.1 hx
  have : (i + t) % F.length < F.length := Nat.mod_lt _ h0
  rw [List.getElem?_eq_getElem this, Option.getD_some]
  exact List.getElem_mem _
theorem SlU.cells4 {w : World} {a : Option Addr} {n c : Nat} {A : List Upd} (h : SlU w (.slice a n c) A) (i : Nat) (hi : i < A.length) :
    ∃ b off, a = some ⟨b, off, none⟩ ∧ b < w.heap.size ∧ w.cell? ⟨b, off + i * 4, none⟩ = some (.int .u8 A[i].kind) ∧ w.cell? ⟨b, off + i * 4 + 1, none⟩ = some (.string (S A[i].key)) ∧ w.cell? ⟨b, off + i * 4 + 2, none⟩ = some (.string (S A[i].val)) ∧ w.cell? ⟨b, off + i * 4 + 3, none⟩ = some (.int .u64 A[i].delta) := by
  obtain ⟨ao, c', e, hs, -⟩ := h
  simp only [Value.slice.injEq] at e
  obtain ⟨rfl, rfl, rfl⟩ := e
  exact SlAt.cells4 hs i hi
theorem below_drewN {B : Nat} {a w : World} (h : Below B a w) (m : Nat) : Below B a (w.drewN m) := ⟨h.os, h.tape, h.output, h.size, h.block⟩
theorem cell_four_new (w : World) (x y z u : Value) (t : TypeId) : ∀ j v, [x, y, z, u][j]? = some v → (w.alloc (.cells #[x, y, z, u] t)).cell? ((⟨w.heap.size, 0, none⟩ : Addr).add j) = some v := by
  intro j v hj
  match j, hj with
  | 0, hj => simp at hj; subst hj; simp [Addr.add]
  | 1, hj => simp at hj; subst hj; simp [Addr.add]
  | 2, hj => simp at hj; subst hj; simp [Addr.add]
  | 3, hj => simp at hj; subst hj; simp [Addr.add]
theorem four_oneCell (k : Int) (x y : ByteArray) (d : Int) : ∀ u ∈ [Value.int .u8 k, .string x, .string y, .int .u64 d], u.oneCell' = true := by
  intro u hu
  simp only [List.mem_cons, List.not_mem_nil, or_false] at hu
  rcases hu with rfl | rfl | rfl | rfl <;> rfl
theorem cellsU_snoc (l : List Upd) (u : Upd) : cellsU (l ++ [u]) = cellsU l ++ [.int .u8 u.kind, .string (S u.key), .string (S u.val), .int .u64 u.delta] := by
  simp [cellsU, Upd.cells]
def tmin (a b : Int) : Int := if b < a then b else a
theorem run_tmin {P : Program} (ts : Array TypeId) (t : TypeId) (a b : Int) (w : World) : (Builtin.min_ ts t #[.int .i64 a, .int .i64 b]).run P w = .ok (.int .i64 (tmin a b)) w := by rw [run_min_int2]; rfl
theorem tmin_nat (a b : Nat) : tmin (a : Int) (b : Int) = ((min a b : Nat) : Int) := by unfold tmin; split <;> omega
theorem take_str (l : List UInt8) (n : Nat) (h : n ≤ l.length) (w : World) : (Instr.slice 9 (.string (S l)) none (some (.int .i64 (n : Int))) none).run Try.prog w = .ok (.string (S (l.take n))) w := by
  rw [run_slice_string_to_if (P := Try.prog) w 9 (S l) .i64 (n : Int) Try.underlying9]
  rw [if_pos (by rw [S_size]; omega)]
  simp [S_extract]

end Go.Proofs.Ytcjeonamebnpfaa
