/-
  The walk of slices.Clone at entries; slices as arguments.
-/
import Derived.Test.YtcjeonamebnpfaaRow
import Derived.Test.YtcjeonamebnpfaaRecU
import Derived.Test.YtcjeonamebnpfaaEnt
import Derived.Outline
namespace Go.Proofs.Ytcjeonamebnpfaa
open Go.RowKit

theorem infoE : (Try.prog.info? 54).map (fun i => (i.zero, i.size, i.bytes)) = some (some (.agg #[.string ByteArray.empty, .string ByteArray.empty]), 2, 32) := by kernel_rfl
/-- The cells of some. -/
def cellsE (l : List Ent) : List Value := l.flatMap Ent.cells
theorem cellsE_len : ∀ l : List Ent, (cellsE l).length = l.length * 2
  | [] => rfl
  | u :: l => by
    have := cellsE_len l
    simp only [cellsE, List.flatMap_cons, List.length_append, List.length_cons] at *
    rw [this]
    simp [Ent.cells]; omega
theorem cellsE_append (a b : List Ent) : cellsE (a ++ b) = cellsE a ++ cellsE b := by simp [cellsE]
theorem cellsE_one (u : Ent) : cellsE [u] = Ent.cells u := by simp [cellsE]
theorem cellsE_oneCell (l : List Ent) : ∀ v ∈ cellsE l, v.oneCell' = true := by
  intro v hv
  simp only [cellsE, List.mem_flatMap] at hv
  obtain ⟨u, -, hv⟩ := hv
  simp only [Ent.cells, List.mem_cons, List.not_mem_nil, or_false] at hv
  rcases hv with rfl | rfl <;> rfl
theorem cellsE_get : ∀ (l : List Ent) (i : Nat) (hi : i < l.length) (j : Nat) (x : Value), (Ent.cells l[i])[j]? = some x → (cellsE l)[i * 2 + j]? = some x
  | [], i, hi, _, _, _ => by simp at hi
  | u :: l, 0, _, j, x, hx => by
    have hj : j < (Ent.cells u).length := (List.getElem?_eq_some_iff.1 hx).1
    simp only [cellsE, List.flatMap_cons, Nat.zero_mul, Nat.zero_add]
    rw [List.getElem?_append_left hj]; exact hx
  | u :: l, i + 1, hi, j, x, hx => by
    have := cellsE_get l i (by simpa using hi) j x (by simpa using hx)
    have hu : (Ent.cells u).length = 2 := rfl
    simp only [cellsE, List.flatMap_cons] at *
    rw [List.getElem?_append_right (by rw [hu]; omega), hu, show (i + 1) * 2 + j - 2 = i * 2 + j by omega]
    exact this
theorem cellsE_take (l : List Ent) (n : Nat) : (cellsE l).take (n * 2) = cellsE (l.take n) := by
  by_cases h : n ≤ l.length
  · conv => lhs; rw [← List.take_append_drop n l, cellsE_append]
    rw [List.take_append_of_le_length (by rw [cellsE_len, List.length_take]; omega), List.take_of_length_le (by rw [cellsE_len, List.length_take]; omega)]
  · rw [List.take_of_length_le (by rw [cellsE_len]; omega), List.take_of_length_le (by omega)]
theorem cellsE_drop (l : List Ent) (n : Nat) : (cellsE l).drop (n * 2) = cellsE (l.drop n) := by
  by_cases h : n ≤ l.length
  · conv => lhs; rw [← List.take_append_drop n l, cellsE_append]
    rw [List.drop_append, List.drop_of_length_le (by rw [cellsE_len, List.length_take]; omega), cellsE_len, List.length_take]
    simp [Nat.min_eq_left h]
  · rw [List.drop_of_length_le (by rw [cellsE_len]; omega), List.drop_of_length_le (by omega)]; rfl

/-- A slice of entries that is only read. -/
structure SlE (w : World) (v : Value) (l : List Ent) : Prop where
  form : ∃ ao c, v = .slice ao l.length c ∧ SlAt Ent.cells 2 w ao l ∧ l.length ≤ c ∧ (c : Int) ≤ 9223372036854775807 ∧ (ao = none → c = 0)
theorem SlE.nil (w : World) : SlE w (.slice none 0 0) [] := ⟨none, 0, rfl, Or.inl rfl, Nat.le_refl _, by omega, fun _ => rfl⟩
theorem SlE.kept {w w' : World} {v : Value} {l : List Ent} {B : Nat} (h : SlE w v l) (hb : Below B w w') (hB : w.heap.size ≤ B) : SlE w' v l := by
  obtain ⟨ao, c, rfl, h1, h2⟩ := h
  exact ⟨ao, c, rfl, h1.kept hb hB, h2⟩
theorem SlAt.cellsE {w : World} {b off : Nat} {l : List Ent} (h : ∀ (i : Nat) (hi : i < l.length) (j : Nat) (x : Value), (Ent.cells l[i])[j]? = some x → w.cell? ⟨b, off + i * 2 + j, none⟩ = some x) :
    ∀ j x, (cellsE l)[j]? = some x → w.cell? ⟨b, off + j, none⟩ = some x := by
  intro j x hx
  have hj := (List.getElem?_eq_some_iff.1 hx).1
  rw [cellsE_len] at hj
  have hi : j / 2 < l.length := by omega
  have hr : j % 2 < (Ent.cells l[j / 2]).length := Nat.mod_lt _ (by decide)
  have e := cellsE_get l (j / 2) hi (j % 2) _ (List.getElem?_eq_getElem hr)
  rw [show j / 2 * 2 + j % 2 = j by omega] at e
  rw [hx] at e
  have := h (j / 2) hi (j % 2) x (by rw [List.getElem?_eq_getElem hr, ← e])
  rw [show off + j / 2 * 2 + j % 2 = off + j by omega] at this
  exact this
/-- A row of the call's own reads as a slice. -/
theorem SlE.of_own {w : World} {B n : Nat} {v : Value} {l : List Ent} (h : w.ownsRow B 54 2 v n (cellsE l)) : l.length = n ∧ SlE w v l := by
  have hn : l.length = n := by have := h.1; rw [cellsE_len] at this; omega
  refine ⟨hn, ?_⟩
  subst hn
  rcases ownsRow_open h with ⟨rfl, h0, -⟩ | ⟨g, cap, cur, rfl, -, hr, h3, h4, h5, h6⟩
  · obtain rfl := List.eq_nil_of_length_eq_zero h0
    exact SlE.nil w
  · refine ⟨_, cap, rfl, Or.inr ⟨g, 0, rfl, hr.lt, fun i hi j x hx => ?_⟩, h3, by unfold maxLen at h4; omega, fun e => by simp at e⟩
    have hj : j < 2 := (List.getElem?_eq_some_iff.1 hx).1
    have e := cellsE_get l i hi j x hx
    rw [hr.cell, Nat.zero_add, ← e, ← h6, List.getElem?_take, if_pos (by omega)]

set_option maxHeartbeats 1000000 in
theorem cloneE (v : Value) (l : List Ent) (w : World) (h : SlE w v l) (hl : l.length ≤ 1000000) :
    Calls Try.prog 52 #[v] w fun e w' => (∃ v', e = .returned v' ∧ w'.ownsRow w.heap.size 54 2 v' l.length (cellsE l)) ∧ Below w.heap.size w w' := by
  obtain ⟨ao, c, rfl, hs, hc1, hc2, hn⟩ := h
  have hnil := fun (w : World) a n c n' c' => Lib.run_eql_slice_nil (P := Try.prog) w 43 54 a n c n' c' Try.underlying43
  obtain ⟨i0, hi, hz0, hz1, hz2⟩ := info_parts infoE
  cases ao with
  | none =>
    obtain rfl := hn rfl
    obtain rfl : l = [] := List.eq_nil_of_length_eq_zero (by omega)
    go_enter Try.func52, Try.ntmps52
    go_wp2_with fail
    go_ret
    exact ⟨⟨_, rfl, World.ownsRow_nil _ _ _ _⟩, Below.refl _ _⟩
  | some a =>
    have hown := World.ownsRow_made (e := 54) (size := 2) (base := w.heap.size) w #[] 0 (Nat.le_refl _) (by unfold maxLen; omega) rfl
    have hnews : ∀ j u, (cellsE l)[j]? = some u → (w.alloc (.cells #[] 54)).cell? (a.add j) = some u := by
      intro j u hu
      have hj := (List.getElem?_eq_some_iff.1 hu).1
      rw [cellsE_len] at hj
      obtain ⟨b, off, e, hb, hc⟩ := hs.at (by omega)
      obtain rfl : a = ⟨b, off, none⟩ := by simpa using e
      rw [show (⟨b, off, none⟩ : Addr).add j = ⟨b, off + j, none⟩ by simp [Addr.add]]
      exact cell_past _ (SlAt.cellsE hc j u hu)
    have hcl := cellsE_len l
    clear hs
    go_enter Try.func52, Try.ntmps52
    go_wp2_with (at_builtin; refine wpList_append_own_at _ rfl _ _ 43 rfl w.heap.size 54 i0 (.agg #[.string ByteArray.empty, .string ByteArray.empty]) 2 32 Try.underlying43 hi hz0 hz1 hz2 rfl (by decide) _ 0 [] rfl hown a l.length c (cellsE l) rfl hcl hnews (cellsE_oneCell l) (by unfold maxLen; omega) (by omega) (by simp) ?_; intro v' w1 hown' hgrow hnil' hat)
    go_ret
    rw [Nat.zero_add, List.nil_append] at hown'
    exact ⟨⟨_, rfl, hown'⟩, below_grown_new hgrow fun k e => Nat.le_of_eq (Option.some.inj e)⟩

end Go.Proofs.Ytcjeonamebnpfaa
