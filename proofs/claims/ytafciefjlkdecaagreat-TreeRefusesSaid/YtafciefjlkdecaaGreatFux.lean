/-
  What texts of another seat took from texts that this one has not.
-/
import Derived.Test.YtafciefjlkdecaaGreatNod
import Derived.Test.YtafciefjlkdecaaGreatZpb
namespace Go.Proofs.YtafciefjlkdecaaGreat
open Go.RowKit

theorem slU_row {w : World} {B n : Nat} {E : TypeId} {v : Value} {l : List Upd} (h : w.ownsRow B E 4 v n (cellsU l)) : l.length = n ∧ SlU w v l := by
  have hn := h.1
  rw [cellsU_len] at hn
  have hn' : l.length = n := by omega
  subst hn'
  refine ⟨rfl, ?_⟩
  rcases ownsRow_open h with ⟨rfl, h0, -⟩ | ⟨g, cap, cur, rfl, -, hr, h3, h4, h5, h6⟩
  · obtain rfl := List.eq_nil_of_length_eq_zero h0
    exact SlU.nil w
  · refine ⟨_, cap, rfl, Or.inr ⟨g, 0, rfl, hr.lt, fun i hi j x hx => ?_⟩, h3, by unfold maxLen at h4; omega, fun e => by simp at e⟩
    have hj : j < 4 := (List.getElem?_eq_some_iff.1 hx).1
    have e := cellsU_get l i hi j x hx
    rw [hr.cell, Nat.zero_add, ← e, ← h6, List.getElem?_take, if_pos (by omega)]
theorem boxU_row {w : World} {B n : Nat} {E : TypeId} {v : Value} {l : List Upd} (h : w.ownsRow B E 4 v n (cellsU l)) : BoxU w (.agg #[v]) l := ⟨v, rfl, (slU_row h).2⟩
theorem BoxU.slice {w : World} {a : Option Addr} {n c : Nat} {l : List Upd} (h : BoxU w (.agg #[.slice a n c]) l) : SlU w (.slice a n c) l := by
  obtain ⟨s, e, hs⟩ := h
  simp only [Value.agg.injEq, Array.mk.injEq, List.cons.injEq, and_true] at e
  rw [e]; exact hs
theorem BoxU.at {w : World} {a : Option Addr} {n c : Nat} {l : List Upd} (h : BoxU w (.agg #[.slice a n c]) l) : SlAt Upd.cells 4 w a l := by
  obtain ⟨x, y, e, h2, -⟩ := h.slice
  simp only [Value.slice.injEq] at e
  obtain ⟨rfl, -, rfl⟩ := e
  exact h2
theorem cutIn_rising {l : List Upd} (hr : Rising Upd.key l) (low high : List UInt8) : Rising Upd.key (cutIn l low high) := by
  rw [(cut_filter hr low high).1]; exact List.Pairwise.filter _ hr
theorem cutOut_rising {l : List Upd} (hr : Rising Upd.key l) (low high : List UInt8) : Rising Upd.key (cutOut l low high) := by
  rw [(cut_filter hr low high).2]; exact List.Pairwise.filter _ hr
theorem cutIn_le {l : List Upd} (hr : Rising Upd.key l) (low high : List UInt8) : (cutIn l low high).length ≤ l.length := by
  rw [(cut_filter hr low high).1]; exact List.length_filter_le _ _
theorem cutOut_le {l : List Upd} (hr : Rising Upd.key l) (low high : List UInt8) : (cutOut l low high).length ≤ l.length := by
  rw [(cut_filter hr low high).2]; exact List.length_filter_le _ _
/-- Both Cuts. -/
theorem cut_next (a : Option Addr) (n c : Nat) (l : List Upd) (low high : List UInt8) (w : World) (hn : n = l.length) (h : BoxU w (.agg #[.slice a n c]) l) (hl : l.length ≤ 1000) (hr : Rising Upd.key l) :
    Calls Tryz.prog 78 #[.agg #[.slice a n c], .string (S low), .string (S high)] w fun e w' => (∃ a1 c1 a2 c2, e = .returned (.tuple #[.agg #[.slice a1 (cutIn l low high).length c1], .agg #[.slice a2 (cutOut l low high).length c2]]) ∧ BoxU w' (.agg #[.slice a1 (cutIn l low high).length c1]) (cutIn l low high) ∧ BoxU w' (.agg #[.slice a2 (cutOut l low high).length c2]) (cutOut l low high)) ∧ Below w.heap.size w w' := by
  subst hn
  refine (cut_any _ l low high w h (by omega) hr).mono ?_
  rintro e w' ⟨⟨v1, v2, he, h1, h2⟩, hb⟩
  obtain ⟨a1, c1, rfl, h1'⟩ := h1.open
  obtain ⟨a2, c2, rfl, h2'⟩ := h2.open
  exact ⟨⟨a1, c1, a2, c2, he, h1', h2'⟩, hb⟩

theorem lenU_next (a : Option Addr) (n c : Nat) (w : World) :
    Calls Tryz.prog 63 #[.agg #[.slice a n c]] w fun e w' => e = .returned (.int .i64 n) ∧ Below w.heap.size w w' := by
  go_enter Tryz.func63, Tryz.ntmps63
  go_wp2
  go_ret
  exact ⟨rfl, by go_grown⟩

theorem cell_four_at (w : World) (g : Nat) (hg : w.heap.size = g) (x y z u : Value) (t : TypeId) : ∀ j v, [x, y, z, u][j]? = some v → (w.alloc (.cells #[x, y, z, u] t)).cell? ((⟨g, 0, none⟩ : Addr).add j) = some v := by
  subst hg; exact cell_four_new _ _ _ _ _ _
theorem kid_oneCell (a : ByteArray) (x y z : Int) : ∀ u ∈ [Value.string a, .int .i64 x, .int .u64 y, .int .u32 z], u.oneCell' = true := by
  intro u hu
  simp only [List.mem_cons, List.not_mem_nil, or_false] at hu
  rcases hu with rfl | rfl | rfl | rfl <;> rfl
theorem cellsC_snoc (l : List Chd) (c : Chd) : cellsC (l ++ [c]) = cellsC l ++ [.string (S c.low), .int .i64 c.addr, .int .u64 c.gen, .int .u32 c.sum] := by simp [cellsC, Chd.cells]


end Go.Proofs.YtafciefjlkdecaaGreat
