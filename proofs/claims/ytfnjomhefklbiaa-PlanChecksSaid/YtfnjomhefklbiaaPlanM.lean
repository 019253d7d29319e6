/-
  The walk of the statement PlanMore.
-/
import Derived.Test.YtfnjomhefklbiaaPlanV
import Derived.Deep.RegionHeld3
import Derived.Deep.DrawnRows
namespace Go.Proofs.Ytfnjomhefklbiaa
open Go.RowKit
attribute [local go_sem ↓] Go.wp_at_zero Go.wp_at_succ

/-- The greater of two. -/
def imax (a b : Int) : Int := if b > a then b else a
theorem imax_le (a b : Int) : a ≤ imax a b ∧ b ≤ imax a b ∧ (imax a b = a ∨ imax a b = b) := by unfold imax; split <;> omega
theorem run_imax {P : Program} (ts : Array TypeId) (t : TypeId) (a b : Int) (w : World) : (Builtin.max_ ts t #[.int .i64 a, .int .i64 b]).run P w = .ok (.int .i64 (imax a b)) w := by
  rw [run_max_int2]; rfl

set_option maxHeartbeats 4000000 in
theorem planMore_walk (a b c n : Int) (w : World) :
    Calls Try.prog 5 #[.agg #[.int .i64 a, .int .i64 b, .int .i64 c], .int .i64 n] w fun e w' => e = .returned (.bool true) ∧ Below w.heap.size w w' := by
  have hmax := fun ts t a b w => run_imax (P := Try.prog) ts t a b w
  have ha := (imax_le 0 a).1
  have hb := (imax_le 0 b).1
  have hc := (imax_le 0 c).1
  have hn := (imax_le 0 n).1
  go_enter Try.func5, Try.ntmps5
  go_wp2_with fail
  have bF : 3 ≤ 3 + imax 0 a % 14 ∧ 3 + imax 0 a % 14 ≤ 16 := by omega
  have bB : 3 ≤ 3 + imax 0 b % 62 ∧ 3 + imax 0 b % 62 ≤ 64 := by omega
  have bL : 2 ≤ 2 + imax 0 c % 63 ∧ 2 + imax 0 c % 63 ≤ 64 := by omega
  have bN : 128 ≤ 128 + imax 0 n % 896 ∧ 128 + imax 0 n % 896 ≤ 1023 := by omega
  generalize 3 + imax 0 a % 14 = F at bF ⊢
  generalize 3 + imax 0 b % 62 = B at bB ⊢
  generalize 2 + imax 0 c % 63 = L at bL ⊢
  generalize 128 + imax 0 n % 896 = N at bN ⊢
  clear ha hb hc hn
  obtain ⟨f1, f2⟩ := bF
  obtain ⟨b1, b2⟩ := bB
  obtain ⟨l1, l2⟩ := bL
  obtain ⟨n1, n2⟩ := bN
  by_cases hc : PlanL.check F B L N = 0
  · have Hc := Lib.hid hc
    have hz := (PlanL.check_zero _ _ _ _).1 hc
    clear hc
    obtain ⟨-, -, hFB, -, -, -, -, -, hr1, hr2⟩ := hz
    refine (thread (check_any _ _ _ _ _) w.heap.size w (by go_grown) (by go_grown)).mono ?_
    rw [Hc.out]
    rintro e w1 ⟨rfl, hB1, hc1, hf1, hs1, hz1⟩
    have hlt1 : w.heap.size + 1 < w1.heap.size := Nat.lt_of_lt_of_le (by simp) hs1
    have hlt0 : w.heap.size < w1.heap.size := by omega
    have d0 := (hc1 (w.heap.size + 1) 0 (by simp)).trans (by simp [go_sem]; rfl)
    have d1 := (hc1 (w.heap.size + 1) 1 (by simp)).trans (by simp [go_sem]; rfl)
    have d2 := (hc1 (w.heap.size + 1) 2 (by simp)).trans (by simp [go_sem]; rfl)
    clear hc1 hf1 hs1
    have e1 : PlanL.check F B L (N + 1) = 0 := (PlanL.check_zero _ _ _ _).2 (by omega)
    have hi := imax_le 2 (L - 1)
    have hj := imax_le F (B - 1)
    have e2 : PlanL.check F B (imax 2 (L - 1)) N = 0 := (PlanL.check_zero _ _ _ _).2 (by omega)
    have e3 : PlanL.check F (imax F (B - 1)) L N = 0 := (PlanL.check_zero _ _ _ _).2 (by omega)
    have hrt : PlanL.right F B L = true := (PlanL.right_iff _ _ _).2 (by omega)
    have e4 : PlanL.nodeBytes F B L = 1 + 33 * F + 51 * B := by rw [PlanL.nodeBytes, if_pos hrt]
    have e5 : PlanL.leafBytes F B L = 50 * L := by rw [PlanL.leafBytes, if_pos hrt]
    have e6 : PlanL.least F B L = B / F := by rw [PlanL.least, if_pos hrt]
    have e7 : PlanL.room N = N - 24 := by rw [PlanL.room, if_pos (by omega)]
    have hw1 : IntKind.i64.wrap (N + 1) = N + 1 := IntWalk.i64_in _ (by omega)
    have hd1 : 1 ≤ B / F := by rw [Int.le_ediv_iff_mul_le (by omega)]; omega
    have hd2 : B / F * F ≤ B := Int.ediv_mul_le B (by omega)
    have hd3 : 0 ≤ B / F * F := Int.mul_nonneg (by omega) (by omega)
    have hw2 : IntKind.i64.wrap (B / F * F) = B / F * F := IntWalk.i64_in _ (by omega)
    clear hi hj hrt
    go_wp2_with fail
    go_region
    · go_wp2_with fail
      go_region_held3 (fun w' => w'.cell? ⟨w.heap.size + 1, 0, none⟩ = some (.int .i64 F) ∧ w'.cell? ⟨w.heap.size + 1, 1, none⟩ = some (.int .i64 B) ∧ w'.cell? ⟨w.heap.size + 1, 2, none⟩ = some (.int .i64 L) ∧ w'.cell? ⟨w1.heap.size, 0, none⟩ = some (.int .i64 F) ∧ w'.cell? ⟨w1.heap.size, 1, none⟩ = some (.int .i64 B) ∧ w'.cell? ⟨w1.heap.size, 2, none⟩ = some (.int .i64 (imax 2 (L - 1))) ∧ w'.cell? ⟨w1.heap.size + 1, 0, none⟩ = some (.int .i64 F) ∧ w'.cell? ⟨w1.heap.size + 1, 1, none⟩ = some (.int .i64 (imax F (B - 1))) ∧ w'.cell? ⟨w1.heap.size + 1, 2, none⟩ = some (.int .i64 L) ∧ w1.heap.size + 1 < w'.heap.size)
        (first | assumption | go_keep)
        (first | (go_at_call 16; (obtain ⟨q0, q1, q2, q3, q4, q5, q6, q7, q8, hM⟩ := ‹_ ∧ _›; refine (carry (wakes18 _) (w1.heap.size + 1) w.heap.size w hM (by go_grown) (by omega)).mono ?_; rintro e wx ⟨rfl, hk, hMx, hBx⟩; have t0 := hk _ _ _ (by omega) q0; have t1 := hk _ _ _ (by omega) q1; have t2 := hk _ _ _ (by omega) q2; have t3 := hk _ _ _ (by omega) q3; have t4 := hk _ _ _ (by omega) q4; have t5 := hk _ _ _ (by omega) q5; have t6 := hk _ _ _ (by omega) q6; have t7 := hk _ _ _ (by omega) q7; have t8 := hk _ _ _ (by omega) q8; clear hk q0 q1 q2 q3 q4 q5 q6 q7 q8 hM)) | (go_at_call 9; (obtain ⟨q0, q1, q2, q3, q4, q5, q6, q7, q8, hM⟩ := ‹_ ∧ _›; refine (carry (check_any _ _ _ _ _) (w1.heap.size + 1) w.heap.size w hM (by go_grown) (by omega)).mono ?_; rintro e wx ⟨rfl, hk, hMx, hBx⟩; (first | rw [e1] | rw [e2] | rw [e3]); have t0 := hk _ _ _ (by omega) q0; have t1 := hk _ _ _ (by omega) q1; have t2 := hk _ _ _ (by omega) q2; have t3 := hk _ _ _ (by omega) q3; have t4 := hk _ _ _ (by omega) q4; have t5 := hk _ _ _ (by omega) q5; have t6 := hk _ _ _ (by omega) q6; have t7 := hk _ _ _ (by omega) q7; have t8 := hk _ _ _ (by omega) q8; clear hk q0 q1 q2 q3 q4 q5 q6 q7 q8 hM)) | (go_at_call 13; (obtain ⟨q0, q1, q2, q3, q4, q5, q6, q7, q8, hM⟩ := ‹_ ∧ _›; refine (carry (nodeBytes_any _ _ _ _) (w1.heap.size + 1) w.heap.size w hM (by go_grown) (by omega)).mono ?_; rintro e wx ⟨rfl, hk, hMx, hBx⟩; (rw [e4]); have t0 := hk _ _ _ (by omega) q0; have t1 := hk _ _ _ (by omega) q1; have t2 := hk _ _ _ (by omega) q2; have t3 := hk _ _ _ (by omega) q3; have t4 := hk _ _ _ (by omega) q4; have t5 := hk _ _ _ (by omega) q5; have t6 := hk _ _ _ (by omega) q6; have t7 := hk _ _ _ (by omega) q7; have t8 := hk _ _ _ (by omega) q8; clear hk q0 q1 q2 q3 q4 q5 q6 q7 q8 hM)) | (go_at_call 14; (obtain ⟨q0, q1, q2, q3, q4, q5, q6, q7, q8, hM⟩ := ‹_ ∧ _›; refine (carry (leafBytes_any _ _ _ _) (w1.heap.size + 1) w.heap.size w hM (by go_grown) (by omega)).mono ?_; rintro e wx ⟨rfl, hk, hMx, hBx⟩; (rw [e5]); have t0 := hk _ _ _ (by omega) q0; have t1 := hk _ _ _ (by omega) q1; have t2 := hk _ _ _ (by omega) q2; have t3 := hk _ _ _ (by omega) q3; have t4 := hk _ _ _ (by omega) q4; have t5 := hk _ _ _ (by omega) q5; have t6 := hk _ _ _ (by omega) q6; have t7 := hk _ _ _ (by omega) q7; have t8 := hk _ _ _ (by omega) q8; clear hk q0 q1 q2 q3 q4 q5 q6 q7 q8 hM)) | (go_at_call 15; (obtain ⟨q0, q1, q2, q3, q4, q5, q6, q7, q8, hM⟩ := ‹_ ∧ _›; refine (carry (least_any _ _ _ _) (w1.heap.size + 1) w.heap.size w hM (by go_grown) (by omega)).mono ?_; rintro e wx ⟨rfl, hk, hMx, hBx⟩; (rw [e6]); have t0 := hk _ _ _ (by omega) q0; have t1 := hk _ _ _ (by omega) q1; have t2 := hk _ _ _ (by omega) q2; have t3 := hk _ _ _ (by omega) q3; have t4 := hk _ _ _ (by omega) q4; have t5 := hk _ _ _ (by omega) q5; have t6 := hk _ _ _ (by omega) q6; have t7 := hk _ _ _ (by omega) q7; have t8 := hk _ _ _ (by omega) q8; clear hk q0 q1 q2 q3 q4 q5 q6 q7 q8 hM)) | (go_at_call 19; refine (room_any _ _).mono ?_; rintro e w' ⟨rfl, rfl⟩; rw [e7]))
      go_wp2_with fail
      go_ret
      exact ⟨by first | rfl | (refine ret_bool ?_; simp; done) | (refine ret_bool ?_; simp; omega), by go_grown⟩
    · go_wp2_with fail
      go_region_held3 (fun w' => w'.cell? ⟨w.heap.size + 1, 0, none⟩ = some (.int .i64 F) ∧ w'.cell? ⟨w.heap.size + 1, 1, none⟩ = some (.int .i64 B) ∧ w'.cell? ⟨w.heap.size + 1, 2, none⟩ = some (.int .i64 L) ∧ w'.cell? ⟨w1.heap.size + 1, 0, none⟩ = some (.int .i64 F) ∧ w'.cell? ⟨w1.heap.size + 1, 1, none⟩ = some (.int .i64 B) ∧ w'.cell? ⟨w1.heap.size + 1, 2, none⟩ = some (.int .i64 (imax 2 (L - 1))) ∧ w'.cell? ⟨w1.heap.size, 0, none⟩ = some (.int .i64 F) ∧ w'.cell? ⟨w1.heap.size, 1, none⟩ = some (.int .i64 (imax F (B - 1))) ∧ w'.cell? ⟨w1.heap.size, 2, none⟩ = some (.int .i64 L) ∧ w1.heap.size + 1 < w'.heap.size)
        (first | assumption | go_keep)
        (first | (go_at_call 16; (obtain ⟨q0, q1, q2, q3, q4, q5, q6, q7, q8, hM⟩ := ‹_ ∧ _›; refine (carry (wakes18 _) (w1.heap.size + 1) w.heap.size w hM (by go_grown) (by omega)).mono ?_; rintro e wx ⟨rfl, hk, hMx, hBx⟩; have t0 := hk _ _ _ (by omega) q0; have t1 := hk _ _ _ (by omega) q1; have t2 := hk _ _ _ (by omega) q2; have t3 := hk _ _ _ (by omega) q3; have t4 := hk _ _ _ (by omega) q4; have t5 := hk _ _ _ (by omega) q5; have t6 := hk _ _ _ (by omega) q6; have t7 := hk _ _ _ (by omega) q7; have t8 := hk _ _ _ (by omega) q8; clear hk q0 q1 q2 q3 q4 q5 q6 q7 q8 hM)) | (go_at_call 9; (obtain ⟨q0, q1, q2, q3, q4, q5, q6, q7, q8, hM⟩ := ‹_ ∧ _›; refine (carry (check_any _ _ _ _ _) (w1.heap.size + 1) w.heap.size w hM (by go_grown) (by omega)).mono ?_; rintro e wx ⟨rfl, hk, hMx, hBx⟩; (first | rw [e1] | rw [e2] | rw [e3]); have t0 := hk _ _ _ (by omega) q0; have t1 := hk _ _ _ (by omega) q1; have t2 := hk _ _ _ (by omega) q2; have t3 := hk _ _ _ (by omega) q3; have t4 := hk _ _ _ (by omega) q4; have t5 := hk _ _ _ (by omega) q5; have t6 := hk _ _ _ (by omega) q6; have t7 := hk _ _ _ (by omega) q7; have t8 := hk _ _ _ (by omega) q8; clear hk q0 q1 q2 q3 q4 q5 q6 q7 q8 hM)) | (go_at_call 13; (obtain ⟨q0, q1, q2, q3, q4, q5, q6, q7, q8, hM⟩ := ‹_ ∧ _›; refine (carry (nodeBytes_any _ _ _ _) (w1.heap.size + 1) w.heap.size w hM (by go_grown) (by omega)).mono ?_; rintro e wx ⟨rfl, hk, hMx, hBx⟩; (rw [e4]); have t0 := hk _ _ _ (by omega) q0; have t1 := hk _ _ _ (by omega) q1; have t2 := hk _ _ _ (by omega) q2; have t3 := hk _ _ _ (by omega) q3; have t4 := hk _ _ _ (by omega) q4; have t5 := hk _ _ _ (by omega) q5; have t6 := hk _ _ _ (by omega) q6; have t7 := hk _ _ _ (by omega) q7; have t8 := hk _ _ _ (by omega) q8; clear hk q0 q1 q2 q3 q4 q5 q6 q7 q8 hM)) | (go_at_call 14; (obtain ⟨q0, q1, q2, q3, q4, q5, q6, q7, q8, hM⟩ := ‹_ ∧ _›; refine (carry (leafBytes_any _ _ _ _) (w1.heap.size + 1) w.heap.size w hM (by go_grown) (by omega)).mono ?_; rintro e wx ⟨rfl, hk, hMx, hBx⟩; (rw [e5]); have t0 := hk _ _ _ (by omega) q0; have t1 := hk _ _ _ (by omega) q1; have t2 := hk _ _ _ (by omega) q2; have t3 := hk _ _ _ (by omega) q3; have t4 := hk _ _ _ (by omega) q4; have t5 := hk _ _ _ (by omega) q5; have t6 := hk _ _ _ (by omega) q6; have t7 := hk _ _ _ (by omega) q7; have t8 := hk _ _ _ (by omega) q8; clear hk q0 q1 q2 q3 q4 q5 q6 q7 q8 hM)) | (go_at_call 15; (obtain ⟨q0, q1, q2, q3, q4, q5, q6, q7, q8, hM⟩ := ‹_ ∧ _›; refine (carry (least_any _ _ _ _) (w1.heap.size + 1) w.heap.size w hM (by go_grown) (by omega)).mono ?_; rintro e wx ⟨rfl, hk, hMx, hBx⟩; (rw [e6]); have t0 := hk _ _ _ (by omega) q0; have t1 := hk _ _ _ (by omega) q1; have t2 := hk _ _ _ (by omega) q2; have t3 := hk _ _ _ (by omega) q3; have t4 := hk _ _ _ (by omega) q4; have t5 := hk _ _ _ (by omega) q5; have t6 := hk _ _ _ (by omega) q6; have t7 := hk _ _ _ (by omega) q7; have t8 := hk _ _ _ (by omega) q8; clear hk q0 q1 q2 q3 q4 q5 q6 q7 q8 hM)) | (go_at_call 19; refine (room_any _ _).mono ?_; rintro e w' ⟨rfl, rfl⟩; rw [e7]))
      go_wp2_with fail
      go_ret
      exact ⟨by first | rfl | (refine ret_bool ?_; simp; done) | (refine ret_bool ?_; simp; omega), by go_grown⟩
  · refine (thread (check_any _ _ _ _ _) w.heap.size w (by go_grown) (by go_grown)).mono ?_
    generalize PlanL.check F B L N = g at hc
    have hne : (g != 0) = true := by simpa using hc
    clear hc
    rintro e w1 ⟨rfl, hB1, -, -, -, hz1⟩
    go_wp2_with (go_at_call 16; refine (thread (wakes18 _) w.heap.size w (by go_grown) (by go_grown)).mono ?_; rintro e w2 ⟨rfl, hB2, -, -, -, -⟩)
    go_ret
    exact ⟨rfl, hB2⟩

end Go.Proofs.Ytfnjomhefklbiaa
