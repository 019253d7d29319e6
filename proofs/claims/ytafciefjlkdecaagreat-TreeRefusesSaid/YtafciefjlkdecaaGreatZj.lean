/-
  The walks of layer 18 (plan) and of what it calls: each function once.
-/
import Derived.Test.YtafciefjlkdecaaGreatZa
import Derived.Test.YtafciefjlkdecaaGreatZi
namespace Go.Proofs.YtafciefjlkdecaaGreat
open Go.RowKit

set_option maxHeartbeats 400000 in
theorem planRight_any (F B L : Int) (w : World) :
    Calls Tryz.prog 42 #[.agg #[.int .i64 F, .int .i64 B, .int .i64 L]] w fun e w' => e = .returned (.bool (PlanL.right F B L)) ∧ Below w.heap.size w w' := by
  go_enter Tryz.func42, Tryz.ntmps42
  go_wp2
  all_goals (go_ret; exact ⟨ret_bool (by first | exact ((PlanL.right_iff F B L).2 (by omega)).symm | exact ((PlanL.right_not F B L).2 (by omega)).symm | (by_cases h : L ≤ 64 <;> simp [PlanL.right, h] <;> omega)), by go_grown⟩)

set_option maxHeartbeats 400000 in
theorem nodeBytes_any (F B L : Int) (w : World) :
    Calls Tryz.prog 35 #[.agg #[.int .i64 F, .int .i64 B, .int .i64 L]] w fun e w' => e = .returned (.int .i64 (PlanL.nodeBytes F B L)) ∧ Below w.heap.size w w' := by
  by_cases h : PlanL.right F B L = true
  · have hn : PlanL.nodeBytes F B L = 1 + 33 * F + 51 * B := by rw [PlanL.nodeBytes, if_pos h]
    rw [hn]; clear hn
    obtain ⟨h1, h2, h3, h4, h5, h6⟩ := (PlanL.right_iff F B L).1 h
    go_enter Tryz.func35, Tryz.ntmps35
    go_wp2_with (go_at_call 42; refine (thread (planRight_any _ _ _ _) w.heap.size w (by go_grown) (by go_grown)).mono ?_; rintro e w1 ⟨rfl, hB1, hc1, hf1, hs1, hz1⟩)
    go_ret
    exact ⟨ret_int (by omega), by go_grown⟩
  · have hr : PlanL.right F B L = false := by simpa using h
    have hn : PlanL.nodeBytes F B L = 0 := by rw [PlanL.nodeBytes, if_neg h]
    rw [hn]; clear hn h
    go_enter Tryz.func35, Tryz.ntmps35
    go_wp2_with (go_at_call 42; refine (thread (planRight_any _ _ _ _) w.heap.size w (by go_grown) (by go_grown)).mono ?_; rintro e w1 ⟨rfl, hB1, hc1, hf1, hs1, hz1⟩)
    go_ret
    exact ⟨ret_int (by first | rfl | omega), by go_grown⟩

set_option maxHeartbeats 400000 in
theorem leafBytes_any (F B L : Int) (w : World) :
    Calls Tryz.prog 34 #[.agg #[.int .i64 F, .int .i64 B, .int .i64 L]] w fun e w' => e = .returned (.int .i64 (PlanL.leafBytes F B L)) ∧ Below w.heap.size w w' := by
  by_cases h : PlanL.right F B L = true
  · have hn : PlanL.leafBytes F B L = 50 * L := by rw [PlanL.leafBytes, if_pos h]
    rw [hn]; clear hn
    obtain ⟨h1, h2, h3, h4, h5, h6⟩ := (PlanL.right_iff F B L).1 h
    go_enter Tryz.func34, Tryz.ntmps34
    go_wp2_with (go_at_call 42; refine (thread (planRight_any _ _ _ _) w.heap.size w (by go_grown) (by go_grown)).mono ?_; rintro e w1 ⟨rfl, hB1, hc1, hf1, hs1, hz1⟩)
    go_ret
    exact ⟨ret_int (by omega), by go_grown⟩
  · have hr : PlanL.right F B L = false := by simpa using h
    have hn : PlanL.leafBytes F B L = 0 := by rw [PlanL.leafBytes, if_neg h]
    rw [hn]; clear hn h
    go_enter Tryz.func34, Tryz.ntmps34
    go_wp2_with (go_at_call 42; refine (thread (planRight_any _ _ _ _) w.heap.size w (by go_grown) (by go_grown)).mono ?_; rintro e w1 ⟨rfl, hB1, hc1, hf1, hs1, hz1⟩)
    go_ret
    exact ⟨ret_int (by first | rfl | omega), by go_grown⟩

set_option maxHeartbeats 400000 in
theorem least_any (F B L : Int) (w : World) :
    Calls Tryz.prog 16 #[.agg #[.int .i64 F, .int .i64 B, .int .i64 L]] w fun e w' => e = .returned (.int .i64 (PlanL.least F B L)) ∧ Below w.heap.size w w' := by
  by_cases h : PlanL.right F B L = true
  · have hn : PlanL.least F B L = B / F := by rw [PlanL.least, if_pos h]
    rw [hn]; clear hn
    obtain ⟨h1, h2, h3, h4, h5, h6⟩ := (PlanL.right_iff F B L).1 h
    go_enter Tryz.func16, Tryz.ntmps16
    go_wp2_with (go_at_call 42; refine (thread (planRight_any _ _ _ _) w.heap.size w (by go_grown) (by go_grown)).mono ?_; rintro e w1 ⟨rfl, hB1, hc1, hf1, hs1, hz1⟩)
    go_ret
    exact ⟨ret_int (by first | rfl | omega), by go_grown⟩
  · have hr : PlanL.right F B L = false := by simpa using h
    have hn : PlanL.least F B L = 0 := by rw [PlanL.least, if_neg h]
    rw [hn]; clear hn h
    go_enter Tryz.func16, Tryz.ntmps16
    go_wp2_with (go_at_call 42; refine (thread (planRight_any _ _ _ _) w.heap.size w (by go_grown) (by go_grown)).mono ?_; rintro e w1 ⟨rfl, hB1, hc1, hf1, hs1, hz1⟩)
    go_ret
    exact ⟨ret_int (by first | rfl | omega), by go_grown⟩

end Go.Proofs.YtafciefjlkdecaaGreat
