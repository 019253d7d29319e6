/-
  Children as cells; the walk of slices.Clone at children.
-/
import Derived.Test.YtafciefjlkdecaaGreatZj
import Derived.Outline
namespace Go.Proofs.YtafciefjlkdecaaGreat
open Go.RowKit

/-- What is known of a child: its least key, its block. -/
structure Chd where
  low : List UInt8
  addr : Int
  gen : Nat
  sum : Nat
def Chd.cells (c : Chd) : List Value := [.string (S c.low), .int .i64 c.addr, .int .u64 c.gen, .int .u32 c.sum]
/-- What Go's types promise. -/
structure Chd.Wf (c : Chd) : Prop where
  addr : -9223372036854775808 ≤ c.addr ∧ c.addr ≤ 9223372036854775807
  gen : c.gen < 18446744073709551616
  sum : c.sum < 4294967296
theorem infoC : (Tryz.prog.info? 179).map (fun i => (i.zero, i.size, i.bytes)) = some (some (.agg #[.string ByteArray.empty, .int .i64 0, .int .u64 0, .int .u32 0]), 4, 40) := by kernel_rfl
/-- The cells of some. -/
def cellsC (l : List Chd) : List Value := l.flatMap Chd.cells
theorem cellsC_len : ∀ l : List Chd, (cellsC l).length = l.length * 4
  | [] => rfl
  | u :: l => by
    have := cellsC_len l
    simp only [cellsC, List.flatMap_cons, List.length_append, List.length_cons] at *
    rw [this]
    simp [Chd.cells]; omega
theorem cellsC_append (a b : List Chd) : cellsC (a ++ b) = cellsC a ++ cellsC b := by simp [cellsC]
theorem cellsC_one (u : Chd) : cellsC [u] = Chd.cells u := by simp [cellsC]
theorem cellsC_oneCell (l : List Chd) : ∀ v ∈ cellsC l, v.oneCell' = true := by
  intro v hv
  simp only [cellsC, List.mem_flatMap] at hv
  obtain ⟨u, -, hv⟩ := hv
  simp only [Chd.cells, List.mem_cons, List.not_mem_nil, or_false] at hv
  rcases hv with rfl | rfl | rfl | rfl <;> rfl
theorem cellsC_get : ∀ (l : List Chd) (i : Nat) (hi : i < l.length) (j : Nat) (x : Value), (Chd.cells l[i])[j]? = some x → (cellsC l)[i * 4 + j]? = some x
  | [], i, hi, _, _, _ => by simp at hi
  | u :: l, 0, _, j, x, hx => by
    have hj : j < (Chd.cells u).length := (List.getElem?_eq_some_iff.1 hx).1
    simp only [cellsC, List.flatMap_cons, Nat.zero_mul, Nat.zero_add]
    rw [List.getElem?_append_left hj]; exact hx
  | u :: l, i + 1, hi, j, x, hx => by
    have := cellsC_get l i (by simpa using hi) j x (by simpa using hx)
    have hu : (Chd.cells u).length = 4 := rfl
    simp only [cellsC, List.flatMap_cons] at *
    rw [List.getElem?_append_right (by rw [hu]; omega), hu, show (i + 1) * 4 + j - 4 = i * 4 + j by omega]
    exact this
theorem cellsC_take (l : List Chd) (n : Nat) : (cellsC l).take (n * 4) = cellsC (l.take n) := by
  by_cases h : n ≤ l.length
  · conv => lhs; rw [← List.take_append_drop n l, cellsC_append]
    rw [List.take_append_of_le_length (by rw [cellsC_len, List.length_take]; omega), List.take_of_length_le (by rw [cellsC_len, List.length_take]; omega)]
  · rw [List.take_of_length_le (by rw [cellsC_len]; omega), List.take_of_length_le (by omega)]
theorem cellsC_drop (l : List Chd) (n : Nat) : (cellsC l).drop (n * 4) = cellsC (l.drop n) := by
  by_cases h : n ≤ l.length
  · conv => lhs; rw [← List.take_append_drop n l, cellsC_append]
    rw [List.drop_append, List.drop_of_length_le (by rw [cellsC_len, List.length_take]; omega), cellsC_len, List.length_take]
    simp [Nat.min_eq_left h]
  · rw [List.drop_of_length_le (by rw [cellsC_len]; omega), List.drop_of_length_le (by omega)]; rfl

/-- A slice of updates that is only read. -/
structure SlC (w : World) (v : Value) (l : List Chd) : Prop where
  form : ∃ ao c, v = .slice ao l.length c ∧ SlAt Chd.cells 4 w ao l ∧ l.length ≤ c ∧ (c : Int) ≤ 9223372036854775807 ∧ (ao = none → c = 0)
theorem SlC.nil (w : World) : SlC w (.slice none 0 0) [] := ⟨none, 0, rfl, Or.inl rfl, Nat.le_refl _, by omega, fun _ => rfl⟩
theorem SlC.kept {w w' : World} {v : Value} {l : List Chd} {B : Nat} (h : SlC w v l) (hb : Below B w w') (hB : w.heap.size ≤ B) : SlC w' v l := by
  obtain ⟨ao, c, rfl, h1, h2⟩ := h
  exact ⟨ao, c, rfl, h1.kept hb hB, h2⟩
theorem SlAt.cellsC {w : World} {b off : Nat} {l : List Chd} (h : ∀ (i : Nat) (hi : i < l.length) (j : Nat) (x : Value), (Chd.cells l[i])[j]? = some x → w.cell? ⟨b, off + i * 4 + j, none⟩ = some x) :
    ∀ j x, (cellsC l)[j]? = some x → w.cell? ⟨b, off + j, none⟩ = some x := by
  intro j x hx
  have hj := (List.getElem?_eq_some_iff.1 hx).1
  rw [cellsC_len] at hj
  have hi : j / 4 < l.length := by omega
  have hr : j % 4 < (Chd.cells l[j / 4]).length := Nat.mod_lt _ (by decide)
  have e := cellsC_get l (j / 4) hi (j % 4) _ (List.getElem?_eq_getElem hr)
  rw [show j / 4 * 4 + j % 4 = j by omega] at e
  rw [hx] at e
  have := h (j / 4) hi (j % 4) x (by rw [List.getElem?_eq_getElem hr, ← e])
  rw [show off + j / 4 * 4 + j % 4 = off + j by omega] at this
  exact this
/-- A row of the call's own reads as a slice. -/
theorem SlC.of_own {w : World} {B n : Nat} {v : Value} {l : List Chd} (h : w.ownsRow B 179 4 v n (cellsC l)) : l.length = n ∧ SlC w v l := by
  have hn : l.length = n := by have := h.1; rw [cellsC_len] at this; omega
  refine ⟨hn, ?_⟩
  subst hn
  rcases ownsRow_open h with ⟨rfl, h0, -⟩ | ⟨g, cap, cur, rfl, -, hr, h3, h4, h5, h6⟩
  · obtain rfl := List.eq_nil_of_length_eq_zero h0
    exact SlC.nil w
  · refine ⟨_, cap, rfl, Or.inr ⟨g, 0, rfl, hr.lt, fun i hi j x hx => ?_⟩, h3, by unfold maxLen at h4; omega, fun e => by simp at e⟩
    have hj : j < 4 := (List.getElem?_eq_some_iff.1 hx).1
    have e := cellsC_get l i hi j x hx
    rw [hr.cell, Nat.zero_add, ← e, ← h6, List.getElem?_take, if_pos (by omega)]

set_option maxHeartbeats 1000000 in
theorem cloneC (v : Value) (l : List Chd) (w : World) (h : SlC w v l) (hl : l.length ≤ 1000000) :
    Calls Tryz.prog 107 #[v] w fun e w' => (∃ v', e = .returned v' ∧ w'.ownsRow w.heap.size 179 4 v' l.length (cellsC l)) ∧ Below w.heap.size w w' := by
  obtain ⟨ao, c, rfl, hs, hc1, hc2, hn⟩ := h
  have hnil := fun (w : World) a n c n' c' => Lib.run_eql_slice_nil (P := Tryz.prog) w 100 179 a n c n' c' Tryz.underlying100
  obtain ⟨i0, hi, hz0, hz1, hz2⟩ := info_parts infoC
  cases ao with
  | none =>
    obtain rfl := hn rfl
    obtain rfl : l = [] := List.eq_nil_of_length_eq_zero (by omega)
    go_enter Tryz.func107, Tryz.ntmps107
    go_wp2_with fail
    go_ret
    exact ⟨⟨_, rfl, World.ownsRow_nil _ _ _ _⟩, Below.refl _ _⟩
  | some a =>
    have hown := World.ownsRow_made (e := 179) (size := 4) (base := w.heap.size) w #[] 0 (Nat.le_refl _) (by unfold maxLen; omega) rfl
    have hnews : ∀ j u, (cellsC l)[j]? = some u → (w.alloc (.cells #[] 179)).cell? (a.add j) = some u := by
      intro j u hu
      have hj := (List.getElem?_eq_some_iff.1 hu).1
      rw [cellsC_len] at hj
      obtain ⟨b, off, e, hb, hc⟩ := hs.at (by omega)
      obtain rfl : a = ⟨b, off, none⟩ := by simpa using e
      rw [show (⟨b, off, none⟩ : Addr).add j = ⟨b, off + j, none⟩ by simp [Addr.add]]
      exact cell_past _ (SlAt.cellsC hc j u hu)
    have hcl := cellsC_len l
    clear hs
    go_enter Tryz.func107, Tryz.ntmps107
    go_wp2_with (at_builtin; refine wpList_append_own_at _ rfl _ _ 100 rfl w.heap.size 179 i0 (.agg #[.string ByteArray.empty, .int .i64 0, .int .u64 0, .int .u32 0]) 4 40 Tryz.underlying100 hi hz0 hz1 hz2 rfl (by decide) _ 0 [] rfl hown a l.length c (cellsC l) rfl hcl hnews (cellsC_oneCell l) (by unfold maxLen; omega) (by omega) (by simp) ?_; intro v' w1 hown' hgrow hnil' hat)
    go_ret
    rw [Nat.zero_add, List.nil_append] at hown'
    exact ⟨⟨_, rfl, hown'⟩, below_grown_new hgrow fun k e => Nat.le_of_eq (Option.some.inj e)⟩

theorem SlAt.cells4C {w : World} {ao : Option Addr} {l : List Chd} (hs : SlAt Chd.cells 4 w ao l) (i : Nat) (hi : i < l.length) :
    ∃ b off, ao = some ⟨b, off, none⟩ ∧ b < w.heap.size ∧ w.cell? ⟨b, off + i * 4, none⟩ = some (.string (S l[i].low)) ∧ w.cell? ⟨b, off + i * 4 + 1, none⟩ = some (.int .i64 l[i].addr) ∧ w.cell? ⟨b, off + i * 4 + 2, none⟩ = some (.int .u64 l[i].gen) ∧ w.cell? ⟨b, off + i * 4 + 3, none⟩ = some (.int .u32 l[i].sum) := by
  obtain ⟨b, off, rfl, hb, hc⟩ := hs.at (by omega)
  refine ⟨b, off, rfl, hb, ?_, hc i hi 1 _ rfl, hc i hi 2 _ rfl, hc i hi 3 _ rfl⟩
  have := hc i hi 0 _ rfl
  rwa [Nat.add_zero] at this
theorem SlC.at {w : World} {a : Option Addr} {n c : Nat} {l : List Chd} (h : SlC w (.slice a n c) l) : SlAt Chd.cells 4 w a l := by
  obtain ⟨x, y, e, h2, -⟩ := h
  simp only [Value.slice.injEq] at e
  obtain ⟨rfl, -, rfl⟩ := e
  exact h2
theorem slC_row {w : World} {B n : Nat} {E : TypeId} {v : Value} {l : List Chd} (h : w.ownsRow B E 4 v n (cellsC l)) : l.length = n ∧ SlC w v l := by
  have hn := h.1
  rw [cellsC_len] at hn
  have hn' : l.length = n := by omega
  subst hn'
  refine ⟨rfl, ?_⟩
  rcases ownsRow_open h with ⟨rfl, h0, -⟩ | ⟨g, cap, cur, rfl, -, hr, h3, h4, h5, h6⟩
  · obtain rfl := List.eq_nil_of_length_eq_zero h0
    exact SlC.nil w
  · refine ⟨_, cap, rfl, Or.inr ⟨g, 0, rfl, hr.lt, fun i hi j x hx => ?_⟩, h3, by unfold maxLen at h4; omega, fun e => by simp at e⟩
    have hj : j < 4 := (List.getElem?_eq_some_iff.1 hx).1
    have e := cellsC_get l i hi j x hx
    rw [hr.cell, Nat.zero_add, ← e, ← h6, List.getElem?_take, if_pos (by omega)]

end Go.Proofs.YtafciefjlkdecaaGreat
