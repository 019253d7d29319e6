/-
  The walks of a value that holds entries: how many, the list, the place of a key.
-/
import Derived.Test.YtcjeonamebnpfaaFindE
import Derived.Test.YtcjeonamebnpfaaCloneE
namespace Go.Proofs.Ytcjeonamebnpfaa
open Go.RowKit

/-- A value of entries: one slice. -/
structure BoxE (w : World) (v : Value) (l : List Ent) : Prop where
  form : ∃ s, v = .agg #[s] ∧ SlE w s l
theorem BoxE.kept {w w' : World} {v : Value} {l : List Ent} {B : Nat} (h : BoxE w v l) (hb : Below B w w') (hB : w.heap.size ≤ B) : BoxE w' v l := by
  obtain ⟨s, rfl, hs⟩ := h
  exact ⟨s, rfl, hs.kept hb hB⟩
theorem BoxE.of_own {w : World} {B n : Nat} {v : Value} {l : List Ent} (h : w.ownsRow B 54 2 v n (cellsE l)) : BoxE w (.agg #[v]) l := ⟨v, rfl, (SlE.of_own h).2⟩

set_option maxHeartbeats 400000 in
theorem lenE (v : Value) (l : List Ent) (w : World) (h : BoxE w v l) :
    Calls Try.prog 19 #[v] w fun e w' => e = .returned (.int .i64 l.length) ∧ Below w.heap.size w w' := by
  obtain ⟨s, rfl, ao, c, rfl, hs, hc1, hc2, hn⟩ := h
  go_enter Try.func19, Try.ntmps19
  go_wp2
  go_ret
  exact ⟨rfl, by go_grown⟩

set_option maxHeartbeats 400000 in
theorem listE (v : Value) (l : List Ent) (w : World) (h : BoxE w v l) (hl : l.length ≤ 1000000) :
    Calls Try.prog 20 #[v] w fun e w' => (∃ v', e = .returned v' ∧ w'.ownsRow w.heap.size 54 2 v' l.length (cellsE l)) ∧ Below w.heap.size w w' := by
  obtain ⟨s, rfl, h2⟩ := h
  have hcl := fun w => cloneE s l w
  obtain ⟨ao, c, rfl, hs, hc1, hc2, hn⟩ := h2
  have hS : SlE w (.slice ao l.length c) l := ⟨ao, c, rfl, hs, hc1, hc2, hn⟩
  have H := Lib.hid hcl
  have HS := Lib.hid hS
  clear hcl hS hn
  go_enter Try.func20, Try.ntmps20
  go_wp2_with (go_at_call 52; refine (thread (H.out _ (HS.out.kept (by go_grown) (Nat.le_refl _)) hl) w.heap.size w (by go_grown) (by go_grown)).mono ?_; rintro e w1 ⟨⟨v', rfl, hown⟩, hB, -, -, hs1, hz1⟩)
  go_ret
  exact ⟨⟨_, rfl, own_base hown (by simp)⟩, hB⟩

set_option maxHeartbeats 400000 in
theorem findE (v : Value) (l : List Ent) (k : List UInt8) (w : World) (h : BoxE w v l) (hl : l.length ≤ 1000000) (hr : Rising Ent.key l) :
    Calls Try.prog 62 #[v, .string (S k)] w fun e w' => e = .returned (.tuple #[.int .i64 (below Ent.key l k : Nat), .bool (hasKey Ent.key l k)]) ∧ Below w.heap.size w w' := by
  obtain ⟨s, rfl, ao, c, rfl, hs, hc1, hc2, hn⟩ := h
  go_enter Try.func62, Try.ntmps62
  go_wp2_with (go_at_call 82; refine (thread (searchE ao c l k _ (hs.kept (by go_grown) (Nat.le_refl _)) hl hr) w.heap.size w (by go_grown) (by go_grown)).mono ?_; rintro e w1 ⟨rfl, hB, -, -, hs1, hz1⟩)
  go_ret2
  exact ⟨rfl, hB⟩

end Go.Proofs.Ytcjeonamebnpfaa
