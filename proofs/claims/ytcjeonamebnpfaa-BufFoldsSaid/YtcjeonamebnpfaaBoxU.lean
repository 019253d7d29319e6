/-
  The walks of a value that holds updates: how many, the list, the place of a key.
-/
import Derived.Test.YtcjeonamebnpfaaFindU
import Derived.Test.YtcjeonamebnpfaaCloneU
namespace Go.Proofs.Ytcjeonamebnpfaa
open Go.RowKit

/-- A value of updates: one slice. -/
structure BoxU (w : World) (v : Value) (l : List Upd) : Prop where
  form : ∃ s, v = .agg #[s] ∧ SlU w s l
theorem BoxU.kept {w w' : World} {v : Value} {l : List Upd} {B : Nat} (h : BoxU w v l) (hb : Below B w w') (hB : w.heap.size ≤ B) : BoxU w' v l := by
  obtain ⟨s, rfl, hs⟩ := h
  exact ⟨s, rfl, hs.kept hb hB⟩
theorem BoxU.of_own {w : World} {B n : Nat} {v : Value} {l : List Upd} (h : w.ownsRow B 31 4 v n (cellsU l)) : BoxU w (.agg #[v]) l := ⟨v, rfl, (SlU.of_own h).2⟩

set_option maxHeartbeats 400000 in
theorem lenU (v : Value) (l : List Upd) (w : World) (h : BoxU w v l) :
    Calls Try.prog 22 #[v] w fun e w' => e = .returned (.int .i64 l.length) ∧ Below w.heap.size w w' := by
  obtain ⟨s, rfl, ao, c, rfl, hs, hc1, hc2, hn⟩ := h
  go_enter Try.func22, Try.ntmps22
  go_wp2
  go_ret
  exact ⟨rfl, by go_grown⟩

set_option maxHeartbeats 400000 in
theorem listU (v : Value) (l : List Upd) (w : World) (h : BoxU w v l) (hl : l.length ≤ 1000000) :
    Calls Try.prog 13 #[v] w fun e w' => (∃ v', e = .returned v' ∧ w'.ownsRow w.heap.size 31 4 v' l.length (cellsU l)) ∧ Below w.heap.size w w' := by
  obtain ⟨s, rfl, h2⟩ := h
  have hcl := fun w => cloneU s l w
  obtain ⟨ao, c, rfl, hs, hc1, hc2, hn⟩ := h2
  have hS : SlU w (.slice ao l.length c) l := ⟨ao, c, rfl, hs, hc1, hc2, hn⟩
  have H := Lib.hid hcl
  have HS := Lib.hid hS
  clear hcl hS hn
  go_enter Try.func13, Try.ntmps13
  go_wp2_with (go_at_call 46; refine (thread (H.out _ (HS.out.kept (by go_grown) (Nat.le_refl _)) hl) w.heap.size w (by go_grown) (by go_grown)).mono ?_; rintro e w1 ⟨⟨v', rfl, hown⟩, hB, -, -, hs1, hz1⟩)
  go_ret
  exact ⟨⟨_, rfl, own_base hown (by simp)⟩, hB⟩

set_option maxHeartbeats 400000 in
theorem findU (v : Value) (l : List Upd) (k : List UInt8) (w : World) (h : BoxU w v l) (hl : l.length ≤ 1000000) (hr : Rising Upd.key l) :
    Calls Try.prog 45 #[v, .string (S k)] w fun e w' => e = .returned (.tuple #[.int .i64 (below Upd.key l k : Nat), .bool (hasKey Upd.key l k)]) ∧ Below w.heap.size w w' := by
  obtain ⟨s, rfl, ao, c, rfl, hs, hc1, hc2, hn⟩ := h
  go_enter Try.func45, Try.ntmps45
  go_wp2_with (go_at_call 69; refine (thread (searchU ao c l k _ (hs.kept (by go_grown) (Nat.le_refl _)) hl hr) w.heap.size w (by go_grown) (by go_grown)).mono ?_; rintro e w1 ⟨rfl, hB, -, -, hs1, hz1⟩)
  go_ret2
  exact ⟨rfl, hB⟩

end Go.Proofs.Ytcjeonamebnpfaa
