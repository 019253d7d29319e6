/-
  The walk of slices.Clone at updates; slices as arguments.
-/
import Derived.Test.YtcjeonamebnpfaaRow
import Derived.Test.YtcjeonamebnpfaaRecU
import Derived.Test.YtcjeonamebnpfaaEnt
import Derived.Outline
namespace Go.Proofs.Ytcjeonamebnpfaa
open Go.RowKit

theorem infoU : (Try.prog.info? 31).map (fun i => (i.zero, i.size, i.bytes)) = some (some (.agg #[.int .u8 0, .string ByteArray.empty, .string ByteArray.empty, .int .u64 0]), 4, 48) := by kernel_rfl
/-- The cells of some. -/
def cellsU (l : List Upd) : List Value := l.flatMap Upd.cells
theorem cellsU_len : ∀ l : List Upd, (cellsU l).length = l.length * 4
  | [] => rfl
  | u :: l => by
    have := cellsU_len l
    simp only [cellsU, List.flatMap_cons, List.length_append, List.length_cons] at *
    rw [this]
    simp [Upd.cells]; omega
theorem cellsU_append (a b : List Upd) : cellsU (a ++ b) = cellsU a ++ cellsU b := by simp [cellsU]
theorem cellsU_one (u : Upd) : cellsU [u] = Upd.cells u := by simp [cellsU]
theorem cellsU_oneCell (l : List Upd) : ∀ v ∈ cellsU l, v.oneCell' = true := by
  intro v hv
  simp only [cellsU, List.mem_flatMap] at hv
  obtain ⟨u, -, hv⟩ := hv
  simp only [Upd.cells, List.mem_cons, List.not_mem_nil, or_false] at hv
  rcases hv with rfl | rfl | rfl | rfl <;> rfl
theorem cellsU_get : ∀ (l : List Upd) (i : Nat) (hi : i < l.length) (j : Nat) (x : Value), (Upd.cells l[i])[j]? = some x → (cellsU l)[i * 4 + j]? = some x
  | [], i, hi, _, _, _ => by simp at hi
  | u :: l, 0, _, j, x, hx => by
    have hj : j < (Upd.cells u).length := (List.getElem?_eq_some_iff.1 hx).1
    simp only [cellsU, List.flatMap_cons, Nat.zero_mul, Nat.zero_add]
    rw [List.getElem?_append_left hj]; exact hx
  | u :: l, i + 1, hi, j, x, hx => by
    have := cellsU_get l i (by simpa using hi) j x (by simpa using hx)
    have hu : (Upd.cells u).length = 4 := rfl
    simp only [cellsU, List.flatMap_cons] at *
    rw [List.getElem?_append_right (by rw [hu]; omega), hu, show (i + 1) * 4 + j - 4 = i * 4 + j by omega]
    exact this
theorem cellsU_take (l : List Upd) (n : Nat) : (cellsU l).take (n * 4) = cellsU (l.take n) := by
  by_cases h : n ≤ l.length
  · conv => lhs; rw [← List.take_append_drop n l, cellsU_append]
    rw [List.take_append_of_le_length (by rw [cellsU_len, List.length_take]; omega), List.take_of_length_le (by rw [cellsU_len, List.length_take]; omega)]
  · rw [List.take_of_length_le (by rw [cellsU_len]; omega), List.take_of_length_le (by omega)]
theorem cellsU_drop (l : List Upd) (n : Nat) : (cellsU l).drop (n * 4) = cellsU (l.drop n) := by
  by_cases h : n ≤ l.length
  · conv => lhs; rw [← List.take_append_drop n l, cellsU_append]
    rw [List.drop_append, List.drop_of_length_le (by rw [cellsU_len, List.length_take]; omega), cellsU_len, List.length_take]
    simp [Nat.min_eq_left h]
  · rw [List.drop_of_length_le (by rw [cellsU_len]; omega), List.drop_of_length_le (by omega)]; rfl

/-- A slice of updates that is only read. -/
structure SlU (w : World) (v : Value) (l : List Upd) : Prop where
  form : ∃ ao c, v = .slice ao l.length c ∧ SlAt Upd.cells 4 w ao l ∧ l.length ≤ c ∧ (c : Int) ≤ 9223372036854775807 ∧ (ao = none → c = 0)
theorem SlU.nil (w : World) : SlU w (.slice none 0 0) [] := ⟨none, 0, rfl, Or.inl rfl, Nat.le_refl _, by omega, fun _ => rfl⟩
theorem SlU.kept {w w' : World} {v : Value} {l : List Upd} {B : Nat} (h : SlU w v l) (hb : Below B w w') (hB : w.heap.size ≤ B) : SlU w' v l := by
  obtain ⟨ao, c, rfl, h1, h2⟩ := h
  exact ⟨ao, c, rfl, h1.kept hb hB, h2⟩
theorem SlAt.cellsU {w : World} {b off : Nat} {l : List Upd} (h : ∀ (i : Nat) (hi : i < l.length) (j : Nat) (x : Value), (Upd.cells l[i])[j]? = some x → w.cell? ⟨b, off + i * 4 + j, none⟩ = some x) :
    ∀ j x, (cellsU l)[j]? = some x → w.cell? ⟨b, off + j, none⟩ = some x := by
  intro j x hx
  have hj := (List.getElem?_eq_some_iff.1 hx).1
  rw [cellsU_len] at hj
  have hi : j / 4 < l.length := by omega
  have hr : j % 4 < (Upd.cells l[j / 4]).length := Nat.mod_lt _ (by decide)
  have e := cellsU_get l (j / 4) hi (j % 4) _ (List.getElem?_eq_getElem hr)
  rw [show j / 4 * 4 + j % 4 = j by omega] at e
  rw [hx] at e
  have := h (j / 4) hi (j % 4) x (by rw [List.getElem?_eq_getElem hr, ← e])
  rw [show off + j / 4 * 4 + j % 4 = off + j by omega] at this
  exact this
/-- A row of the call's own reads as a slice. -/
theorem SlU.of_own {w : World} {B n : Nat} {v : Value} {l : List Upd} (h : w.ownsRow B 31 4 v n (cellsU l)) : l.length = n ∧ SlU w v l := by
  have hn : l.length = n := by have := h.1; rw [cellsU_len] at this; omega
  refine ⟨hn, ?_⟩
  subst hn
  rcases ownsRow_open h with ⟨rfl, h0, -⟩ | ⟨g, cap, cur, rfl, -, hr, h3, h4, h5, h6⟩
  · obtain rfl := List.eq_nil_of_length_eq_zero h0
    exact SlU.nil w
  · refine ⟨_, cap, rfl, Or.inr ⟨g, 0, rfl, hr.lt, fun i hi j x hx => ?_⟩, h3, by unfold maxLen at h4; omega, fun e => by simp at e⟩
    have hj : j < 4 := (List.getElem?_eq_some_iff.1 hx).1
    have e := cellsU_get l i hi j x hx
    rw [hr.cell, Nat.zero_add, ← e, ← h6, List.getElem?_take, if_pos (by omega)]

set_option maxHeartbeats 1000000 in
theorem cloneU (v : Value) (l : List Upd) (w : World) (h : SlU w v l) (hl : l.length ≤ 1000000) :
    Calls Try.prog 46 #[v] w fun e w' => (∃ v', e = .returned v' ∧ w'.ownsRow w.heap.size 31 4 v' l.length (cellsU l)) ∧ Below w.heap.size w w' := by
  obtain ⟨ao, c, rfl, hs, hc1, hc2, hn⟩ := h
  have hnil := fun (w : World) a n c n' c' => Lib.run_eql_slice_nil (P := Try.prog) w 24 31 a n c n' c' Try.underlying24
  obtain ⟨i0, hi, hz0, hz1, hz2⟩ := info_parts infoU
  cases ao with
  | none =>
    obtain rfl := hn rfl
    obtain rfl : l = [] := List.eq_nil_of_length_eq_zero (by omega)
    go_enter Try.func46, Try.ntmps46
    go_wp2_with fail
    go_ret
    exact ⟨⟨_, rfl, World.ownsRow_nil _ _ _ _⟩, Below.refl _ _⟩
  | some a =>
    have hown := World.ownsRow_made (e := 31) (size := 4) (base := w.heap.size) w #[] 0 (Nat.le_refl _) (by unfold maxLen; omega) rfl
    have hnews : ∀ j u, (cellsU l)[j]? = some u → (w.alloc (.cells #[] 31)).cell? (a.add j) = some u := by
      intro j u hu
      have hj := (List.getElem?_eq_some_iff.1 hu).1
      rw [cellsU_len] at hj
      obtain ⟨b, off, e, hb, hc⟩ := hs.at (by omega)
      obtain rfl : a = ⟨b, off, none⟩ := by simpa using e
      rw [show (⟨b, off, none⟩ : Addr).add j = ⟨b, off + j, none⟩ by simp [Addr.add]]
      exact cell_past _ (SlAt.cellsU hc j u hu)
    have hcl := cellsU_len l
    clear hs
    go_enter Try.func46, Try.ntmps46
    go_wp2_with (at_builtin; refine wpList_append_own_at _ rfl _ _ 24 rfl w.heap.size 31 i0 (.agg #[.int .u8 0, .string ByteArray.empty, .string ByteArray.empty, .int .u64 0]) 4 48 Try.underlying24 hi hz0 hz1 hz2 rfl (by decide) _ 0 [] rfl hown a l.length c (cellsU l) rfl hcl hnews (cellsU_oneCell l) (by unfold maxLen; omega) (by omega) (by simp) ?_; intro v' w1 hown' hgrow hnil' hat)
    go_ret
    rw [Nat.zero_add, List.nil_append] at hown'
    exact ⟨⟨_, rfl, hown'⟩, below_grown_new hgrow fun k e => Nat.le_of_eq (Option.some.inj e)⟩

end Go.Proofs.Ytcjeonamebnpfaa
