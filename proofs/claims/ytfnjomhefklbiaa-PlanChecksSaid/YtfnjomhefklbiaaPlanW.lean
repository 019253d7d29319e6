/-
  The walks of layer 18 (plan) and of what it calls: each function once.
-/
import Derived.Test.YtfnjomhefklbiaaKit
import Derived.Test.YtfnjomhefklbiaaPlanL
namespace Go.Proofs.Ytfnjomhefklbiaa
open Go.RowKit

set_option maxHeartbeats 400000 in
theorem sized_any (n : Int) (w : World) :
    Calls Try.prog 31 #[.int .i64 n] w fun e w' => e = .returned (.bool (PlanL.sized n)) ∧ w = w' := by
  by_cases h1 : 128 ≤ n
  · by_cases h2 : n ≤ 1024
    · have hs : PlanL.sized n = true := by simp [PlanL.sized, h1, h2]
      rw [hs]; clear hs
      go_enter Try.func31, Try.ntmps31
      go_wp2
      go_ret
      exact ⟨rfl, rfl⟩
    · have hs : PlanL.sized n = false := by simp [PlanL.sized, h1, h2]
      rw [hs]; clear hs
      go_enter Try.func31, Try.ntmps31
      go_wp2
      go_ret
      exact ⟨rfl, rfl⟩
  · have hs : PlanL.sized n = false := by simp [PlanL.sized, h1]
    rw [hs]; clear hs
    go_enter Try.func31, Try.ntmps31
    go_wp2
    go_ret
    exact ⟨rfl, rfl⟩


set_option maxHeartbeats 400000 in
theorem room_any (n : Int) (w : World) :
    Calls Try.prog 19 #[.int .i64 n] w fun e w' => e = .returned (.int .i64 (PlanL.room n)) ∧ w = w' := by
  by_cases h : 128 ≤ n ∧ n ≤ 1024
  · have hs : PlanL.sized n = true := by simp [PlanL.sized, h]
    have hr : PlanL.room n = n - 24 := by simp [PlanL.room, h]
    rw [hr]; clear hr
    obtain ⟨h1, h2⟩ := h
    go_enter Try.func19, Try.ntmps19
    go_wp2_with (go_at_call 31; refine (sized_any _ _).mono ?_; rintro e w' ⟨rfl, rfl⟩)
    go_ret
    exact ⟨rfl, rfl⟩
  · have hs : PlanL.sized n = false := by simp [PlanL.sized]; omega
    have hr : PlanL.room n = 0 := by simp [PlanL.room]; omega
    rw [hr]; clear hr h
    go_enter Try.func19, Try.ntmps19
    go_wp2_with (go_at_call 31; refine (sized_any _ _).mono ?_; rintro e w' ⟨rfl, rfl⟩)
    go_ret
    exact ⟨rfl, rfl⟩

set_option maxHeartbeats 400000 in
theorem right_any (F B L : Int) (w : World) :
    Calls Try.prog 27 #[.agg #[.int .i64 F, .int .i64 B, .int .i64 L]] w fun e w' => e = .returned (.bool (PlanL.right F B L)) ∧ Below w.heap.size w w' := by
  go_enter Try.func27, Try.ntmps27
  go_wp2
  all_goals (go_ret; exact ⟨ret_bool (by first | exact ((PlanL.right_iff F B L).2 (by omega)).symm | exact ((PlanL.right_not F B L).2 (by omega)).symm | (by_cases h : L ≤ 64 <;> simp [PlanL.right, h] <;> omega)), by go_grown⟩)

set_option maxHeartbeats 400000 in
theorem nodeBytes_any (F B L : Int) (w : World) :
    Calls Try.prog 13 #[.agg #[.int .i64 F, .int .i64 B, .int .i64 L]] w fun e w' => e = .returned (.int .i64 (PlanL.nodeBytes F B L)) ∧ Below w.heap.size w w' := by
  by_cases h : PlanL.right F B L = true
  · have hn : PlanL.nodeBytes F B L = 1 + 33 * F + 51 * B := by rw [PlanL.nodeBytes, if_pos h]
    rw [hn]; clear hn
    obtain ⟨h1, h2, h3, h4, h5, h6⟩ := (PlanL.right_iff F B L).1 h
    go_enter Try.func13, Try.ntmps13
    go_wp2_with (go_at_call 27; refine (thread (right_any _ _ _ _) w.heap.size w (by go_grown) (by go_grown)).mono ?_; rintro e w1 ⟨rfl, hB1, hc1, hf1, hs1, hz1⟩)
    go_ret
    exact ⟨ret_int (by omega), by go_grown⟩
  · have hr : PlanL.right F B L = false := by simpa using h
    have hn : PlanL.nodeBytes F B L = 0 := by rw [PlanL.nodeBytes, if_neg h]
    rw [hn]; clear hn h
    go_enter Try.func13, Try.ntmps13
    go_wp2_with (go_at_call 27; refine (thread (right_any _ _ _ _) w.heap.size w (by go_grown) (by go_grown)).mono ?_; rintro e w1 ⟨rfl, hB1, hc1, hf1, hs1, hz1⟩)
    go_ret
    exact ⟨ret_int (by first | rfl | omega), by go_grown⟩

set_option maxHeartbeats 400000 in
theorem leafBytes_any (F B L : Int) (w : World) :
    Calls Try.prog 14 #[.agg #[.int .i64 F, .int .i64 B, .int .i64 L]] w fun e w' => e = .returned (.int .i64 (PlanL.leafBytes F B L)) ∧ Below w.heap.size w w' := by
  by_cases h : PlanL.right F B L = true
  · have hn : PlanL.leafBytes F B L = 50 * L := by rw [PlanL.leafBytes, if_pos h]
    rw [hn]; clear hn
    obtain ⟨h1, h2, h3, h4, h5, h6⟩ := (PlanL.right_iff F B L).1 h
    go_enter Try.func14, Try.ntmps14
    go_wp2_with (go_at_call 27; refine (thread (right_any _ _ _ _) w.heap.size w (by go_grown) (by go_grown)).mono ?_; rintro e w1 ⟨rfl, hB1, hc1, hf1, hs1, hz1⟩)
    go_ret
    exact ⟨ret_int (by omega), by go_grown⟩
  · have hr : PlanL.right F B L = false := by simpa using h
    have hn : PlanL.leafBytes F B L = 0 := by rw [PlanL.leafBytes, if_neg h]
    rw [hn]; clear hn h
    go_enter Try.func14, Try.ntmps14
    go_wp2_with (go_at_call 27; refine (thread (right_any _ _ _ _) w.heap.size w (by go_grown) (by go_grown)).mono ?_; rintro e w1 ⟨rfl, hB1, hc1, hf1, hs1, hz1⟩)
    go_ret
    exact ⟨ret_int (by first | rfl | omega), by go_grown⟩

set_option maxHeartbeats 400000 in
theorem least_any (F B L : Int) (w : World) :
    Calls Try.prog 15 #[.agg #[.int .i64 F, .int .i64 B, .int .i64 L]] w fun e w' => e = .returned (.int .i64 (PlanL.least F B L)) ∧ Below w.heap.size w w' := by
  by_cases h : PlanL.right F B L = true
  · have hn : PlanL.least F B L = B / F := by rw [PlanL.least, if_pos h]
    rw [hn]; clear hn
    obtain ⟨h1, h2, h3, h4, h5, h6⟩ := (PlanL.right_iff F B L).1 h
    go_enter Try.func15, Try.ntmps15
    go_wp2_with (go_at_call 27; refine (thread (right_any _ _ _ _) w.heap.size w (by go_grown) (by go_grown)).mono ?_; rintro e w1 ⟨rfl, hB1, hc1, hf1, hs1, hz1⟩)
    go_ret
    exact ⟨ret_int (by first | rfl | omega), by go_grown⟩
  · have hr : PlanL.right F B L = false := by simpa using h
    have hn : PlanL.least F B L = 0 := by rw [PlanL.least, if_neg h]
    rw [hn]; clear hn h
    go_enter Try.func15, Try.ntmps15
    go_wp2_with (go_at_call 27; refine (thread (right_any _ _ _ _) w.heap.size w (by go_grown) (by go_grown)).mono ?_; rintro e w1 ⟨rfl, hB1, hc1, hf1, hs1, hz1⟩)
    go_ret
    exact ⟨ret_int (by first | rfl | omega), by go_grown⟩

set_option maxHeartbeats 400000 in
theorem check_any (F B L n : Int) (w : World) :
    Calls Try.prog 9 #[.agg #[.int .i64 F, .int .i64 B, .int .i64 L], .int .i64 n] w fun e w' => e = .returned (.int .i64 (PlanL.check F B L n)) ∧ Below w.heap.size w w' := by
  by_cases h : PlanL.right F B L = true
  · by_cases hn : 128 ≤ n ∧ n ≤ 1024
    · have hr : PlanL.room n = n - 24 := by simp [PlanL.room, hn]
      have hnb : PlanL.nodeBytes F B L = 1 + 33 * F + 51 * B := by rw [PlanL.nodeBytes, if_pos h]
      have hlb : PlanL.leafBytes F B L = 50 * L := by rw [PlanL.leafBytes, if_pos h]
      have hck : PlanL.check F B L n = if n - 24 < 1 + 33 * F + 51 * B ∨ n - 24 < 50 * L then 20 else 0 := by
        rw [PlanL.check, if_neg (by rw [h]; simp; omega)]
      have Hr := Lib.hid hr
      have Hnb := Lib.hid hnb
      have Hlb := Lib.hid hlb
      have Hck := Lib.hid hck
      clear hck hr hnb hlb
      obtain ⟨h1, h2, h3, h4, h5, h6⟩ := (PlanL.right_iff F B L).1 h
      obtain ⟨h7, h8⟩ := hn
      have h0 : (n - 24 == 0) = false := by simp; omega
      go_enter Try.func9, Try.ntmps9
      go_wp2_with (first
        | (go_at_call 19; refine (room_any _ _).mono ?_; rintro e w' ⟨rfl, rfl⟩; rw [Hr.out])
        | (go_at_call 27; refine (thread (right_any _ _ _ _) w.heap.size w (by go_grown) (by go_grown)).mono ?_; rintro e w1 ⟨rfl, hB1, hc1, hf1, hs1, hz1⟩; have hl1 : w.heap.size < w1.heap.size := Nat.lt_of_lt_of_le (by simp) hs1)
        | (go_at_call 13; refine (thread (nodeBytes_any _ _ _ _) w.heap.size w (by go_grown) (by go_grown)).mono ?_; go_loud (rintro e w2 ⟨rfl, hB2, hc2, hf2, hs2, hz2⟩; have hl2 : w.heap.size < w2.heap.size := Nat.lt_of_lt_of_le hl1 hs2; rw [Hnb.out]))
        | (go_at_call 14; refine (thread (leafBytes_any _ _ _ _) w.heap.size w (by go_grown) (by go_grown)).mono ?_; rintro e w3 ⟨rfl, hB3, hc3, hf3, hs3, hz3⟩; have hl3 : w.heap.size < w3.heap.size := Nat.lt_of_lt_of_le hl2 hs3; rw [Hlb.out]))
      all_goals (go_ret; exact ⟨ret_int (by rw [Hck.out]; first | rw [if_pos (by omega)] | rw [if_neg (by omega)]), by go_grown⟩)
    · have hr : PlanL.room n = 0 := by simp [PlanL.room]; omega
      have hck : PlanL.check F B L n = 2 := by rw [PlanL.check, if_pos (by omega)]
      have Hr := Lib.hid hr
      rw [hck]; clear hck hr hn
      go_enter Try.func9, Try.ntmps9
      go_wp2_with (first
        | (go_at_call 19; refine (room_any _ _).mono ?_; rintro e w' ⟨rfl, rfl⟩; rw [Hr.out])
        | (go_at_call 27; refine (thread (right_any _ _ _ _) w.heap.size w (by go_grown) (by go_grown)).mono ?_; rintro e w1 ⟨rfl, hB1, hc1, hf1, hs1, hz1⟩))
      all_goals (go_ret; exact ⟨rfl, by go_grown⟩)
  · have hr : PlanL.right F B L = false := by simpa using h
    have hck : PlanL.check F B L n = 2 := by rw [PlanL.check, if_pos (Or.inl hr)]
    rw [hck]; clear hck h
    go_enter Try.func9, Try.ntmps9
    go_wp2_with (first
      | (go_at_call 19; refine (room_any _ _).mono ?_; rintro e w' ⟨rfl, rfl⟩)
      | (go_at_call 27; refine (thread (right_any _ _ _ _) w.heap.size w (by go_grown) (by go_grown)).mono ?_; rintro e w1 ⟨rfl, hB1, hc1, hf1, hs1, hz1⟩))
    all_goals (go_ret; exact ⟨rfl, by go_grown⟩)

end Go.Proofs.Ytfnjomhefklbiaa
