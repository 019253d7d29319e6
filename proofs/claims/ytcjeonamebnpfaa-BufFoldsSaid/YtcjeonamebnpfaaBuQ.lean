/-
  Contracts as BufPlays needs them: the program's and the document's With, Cut, Text, by one list.
-/
import Derived.Test.YtcjeonamebnpfaaOrdT
import Derived.Test.YtcjeonamebnpfaaTmQ
import Derived.Test.YtcjeonamebnpfaaRefW
import Derived.Test.YtcjeonamebnpfaaRefK
import Derived.Test.YtcjeonamebnpfaaRecT
import Derived.Test.YtcjeonamebnpfaaRef12
import Derived.Test.YtcjeonamebnpfaaSameU
import Derived.Test.YtcjeonamebnpfaaBufG
namespace Go.Proofs.Ytcjeonamebnpfaa
open Go.RowKit

theorem slU_row {w : World} {B n : Nat} {E : TypeId} {v : Value} {l : List Upd} (h : w.ownsRow B E 4 v n (cellsU l)) : l.length = n ∧ SlU w v l := by
  have hn := h.1
  rw [cellsU_len] at hn
  have hn' : l.length = n := by omega
  subst hn'
  refine ⟨rfl, ?_⟩
  rcases ownsRow_open h with ⟨rfl, h0, -⟩ | ⟨g, cap, cur, rfl, -, hr, h3, h4, h5, h6⟩
  · obtain rfl := List.eq_nil_of_length_eq_zero h0
    exact SlU.nil w
  · refine ⟨_, cap, rfl, Or.inr ⟨g, 0, rfl, hr.lt, fun i hi j x hx => ?_⟩, h3, by unfold maxLen at h4; omega, fun e => by simp at e⟩
    have hj : j < 4 := (List.getElem?_eq_some_iff.1 hx).1
    have e := cellsU_get l i hi j x hx
    rw [hr.cell, Nat.zero_add, ← e, ← h6, List.getElem?_take, if_pos (by omega)]
theorem boxU_row {w : World} {B n : Nat} {E : TypeId} {v : Value} {l : List Upd} (h : w.ownsRow B E 4 v n (cellsU l)) : BoxU w (.agg #[v]) l := ⟨v, rfl, (slU_row h).2⟩
theorem BoxU.slice {w : World} {a : Option Addr} {n c : Nat} {l : List Upd} (h : BoxU w (.agg #[.slice a n c]) l) : SlU w (.slice a n c) l := by
  obtain ⟨s, e, hs⟩ := h
  simp only [Value.agg.injEq, Array.mk.injEq, List.cons.injEq, and_true] at e
  rw [e]; exact hs
theorem BoxU.at {w : World} {a : Option Addr} {n c : Nat} {l : List Upd} (h : BoxU w (.agg #[.slice a n c]) l) : SlAt Upd.cells 4 w a l := by
  obtain ⟨x, y, e, h2, -⟩ := h.slice
  simp only [Value.slice.injEq] at e
  obtain ⟨rfl, -, rfl⟩ := e
  exact h2
theorem withAll_tm : ∀ (us : List Upd), (∀ u ∈ us, Tm u) → ∀ x ∈ withAll us, Tm x := by
  intro us
  induction us using snoc_ind with
  | h0 => intro _ x hx; simp [withAll] at hx
  | h1 us u ih =>
    intro h
    have h1 := ih (fun x hx => h x (by simp [hx]))
    rw [withAll_snoc]
    exact withL_tm (withAll_ok us (fun x hx => tm_fine (fun y hy => h y (by simp [hy])) x hx)).1 h1 u (h u (by simp))
theorem tm_ok {us : List Upd} (h : ∀ u ∈ us, Tm u) : ∀ u ∈ us, u.Wf ∧ u.val.length ≤ 1000000 := tm_fine h
/-- The document's With. -/
theorem refWith_next (a : Option Addr) (n c : Nat) (us : List Upd) (u : Upd) (w : World) (hn : n = (withAll us).length) (h : BoxU w (.agg #[.slice a n c]) (withAll us)) (hl : us.length ≤ 1000) (hus : ∀ x ∈ us, Tm x) (hu : Tm u) :
    Calls Try.prog 36 #[.slice a n c, .agg #[.int .u8 u.kind, .string (S u.key), .string (S u.val), .int .u64 u.delta]] w fun e w' => (∃ a' c', e = .returned (.slice a' (withAll (us ++ [u])).length c') ∧ BoxU w' (.agg #[.slice a' (withAll (us ++ [u])).length c']) (withAll (us ++ [u]))) ∧ Below w.heap.size w w' := by
  subst hn
  obtain ⟨h1, h2, h3⟩ := withAll_ok us (tm_ok hus)
  refine (refWith_any a c (withAll us) u.kind u.key u.val u.delta w h.at (by omega) (withAll_tm us hus) hu).mono ?_
  rintro e w' ⟨⟨a', c', he, hv⟩, hb⟩
  rw [show wOut ⟨u.kind, u.key, u.val, u.delta⟩ (withAll us) = withAll (us ++ [u]) from (wOut_with h1 u).trans (withAll_snoc us u).symm] at he hv
  exact ⟨⟨a', c', he, boxU_row hv⟩, hb⟩
theorem cutIn_rising {l : List Upd} (hr : Rising Upd.key l) (low high : List UInt8) : Rising Upd.key (cutIn l low high) := by
  rw [(cut_filter hr low high).1]; exact List.Pairwise.filter _ hr
theorem cutOut_rising {l : List Upd} (hr : Rising Upd.key l) (low high : List UInt8) : Rising Upd.key (cutOut l low high) := by
  rw [(cut_filter hr low high).2]; exact List.Pairwise.filter _ hr
theorem cutIn_le {l : List Upd} (hr : Rising Upd.key l) (low high : List UInt8) : (cutIn l low high).length ≤ l.length := by
  rw [(cut_filter hr low high).1]; exact List.length_filter_le _ _
theorem cutOut_le {l : List Upd} (hr : Rising Upd.key l) (low high : List UInt8) : (cutOut l low high).length ≤ l.length := by
  rw [(cut_filter hr low high).2]; exact List.length_filter_le _ _
/-- Both Cuts. -/
theorem cut_next (a : Option Addr) (n c : Nat) (l : List Upd) (low high : List UInt8) (w : World) (hn : n = l.length) (h : BoxU w (.agg #[.slice a n c]) l) (hl : l.length ≤ 1000) (hr : Rising Upd.key l) :
    Calls Try.prog 15 #[.agg #[.slice a n c], .string (S low), .string (S high)] w fun e w' => (∃ a1 c1 a2 c2, e = .returned (.tuple #[.agg #[.slice a1 (cutIn l low high).length c1], .agg #[.slice a2 (cutOut l low high).length c2]]) ∧ BoxU w' (.agg #[.slice a1 (cutIn l low high).length c1]) (cutIn l low high) ∧ BoxU w' (.agg #[.slice a2 (cutOut l low high).length c2]) (cutOut l low high)) ∧ Below w.heap.size w w' := by
  subst hn
  refine (cut_any _ l low high w h (by omega) hr).mono ?_
  rintro e w' ⟨⟨v1, v2, he, h1, h2⟩, hb⟩
  obtain ⟨a1, c1, rfl, h1'⟩ := h1.open
  obtain ⟨a2, c2, rfl, h2'⟩ := h2.open
  exact ⟨⟨a1, c1, a2, c2, he, h1', h2'⟩, hb⟩
theorem refCut_next (a : Option Addr) (n c : Nat) (l : List Upd) (low high : List UInt8) (w : World) (hn : n = l.length) (h : BoxU w (.agg #[.slice a n c]) l) (hl : l.length ≤ 1000) (hr : Rising Upd.key l) :
    Calls Try.prog 38 #[.slice a n c, .string (S low), .string (S high)] w fun e w' => (∃ a1 c1 a2 c2, e = .returned (.tuple #[.slice a1 (cutIn l low high).length c1, .slice a2 (cutOut l low high).length c2]) ∧ BoxU w' (.agg #[.slice a1 (cutIn l low high).length c1]) (cutIn l low high) ∧ BoxU w' (.agg #[.slice a2 (cutOut l low high).length c2]) (cutOut l low high)) ∧ Below w.heap.size w w' := by
  refine (refCut_any a n c l low high w hn h.at hl).mono ?_
  rintro e w' ⟨⟨a1, c1, a2, c2, he, h1, h2⟩, hb⟩
  rw [(cut_filter hr low high).1, (cut_filter hr low high).2]
  exact ⟨⟨a1, c1, a2, c2, he, boxU_row h1, boxU_row h2⟩, hb⟩
/-- Both Texts. -/
theorem text_next (a : Option Addr) (n c : Nat) (l : List Upd) (w : World) (hn : n = l.length) (h : BoxU w (.agg #[.slice a n c]) l) (hl : l.length ≤ 1000) (hf : ∀ u ∈ l, Tm u) :
    Calls Try.prog 39 #[.agg #[.slice a n c]] w fun e w' => e = .returned (.tuple #[.string (S (textU l)), .int .i64 0]) ∧ Below w.heap.size w w' :=
  bufText_any a n c l w hn h.at (by omega) hf
theorem refText_next (a : Option Addr) (n c : Nat) (l : List Upd) (w : World) (hn : n = l.length) (h : BoxU w (.agg #[.slice a n c]) l) (hl : l.length ≤ 1000) (hf : ∀ u ∈ l, Tm u) :
    Calls Try.prog 40 #[.slice a n c] w fun e w' => e = .returned (.tuple #[.string (S (textU l)), .int .i64 0]) ∧ Below w.heap.size w w' := by
  subst hn
  refine (refText_any a c l w (by omega) (fun u hu => (hf u hu).wf) h.at).mono ?_
  rintro e w' ⟨he, hb⟩
  rw [textU_acc l [] hf, List.nil_append] at he
  exact ⟨he, hb⟩
/-- Of the empty key there is nothing. -/
theorem get_empty (a : Option Addr) (n c : Nat) (l : List Upd) (w : World) (hn : n = l.length) (h : BoxU w (.agg #[.slice a n c]) l) (hl : l.length ≤ 1000) (hr : Rising Upd.key l) (hf : ∀ u ∈ l, Tm u) :
    Calls Try.prog 23 #[.agg #[.slice a n c], .string ⟨#[]⟩] w fun e w' => e = .returned (.tuple #[.agg #[.int .u8 0, .string ⟨#[]⟩, .string ⟨#[]⟩, .int .u64 0], .bool false]) ∧ Below w.heap.size w w' := by
  subst hn
  refine (get_any _ l [] w h (by omega) hr).mono ?_
  rintro e w' ⟨he, hb⟩
  rw [getL_none (tm_empty hf)] at he
  exact ⟨he, hb⟩

end Go.Proofs.Ytcjeonamebnpfaa
