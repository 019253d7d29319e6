/-
  The walk of the best plan.
-/
import Derived.Test.YtlmlmkeomlehmaaZqb
namespace Go.Proofs.Ytlmlmkeomlehmaa
open Go.RowKit

theorem best_arg {n F : Int} (h : n < 128 ∨ 1024 < n ∨ F < 3 ∨ 16 < F) : PlanL.best n F = (0, 0, 0, 2) := by rw [PlanL.best, if_pos h]
theorem best_yes {n F : Int} (h : ¬ (n < 128 ∨ 1024 < n ∨ F < 3 ∨ 16 < F)) (k : PlanL.check F (PlanL.bB n F) (PlanL.bL n) n = 0) : PlanL.best n F = (F, PlanL.bB n F, PlanL.bL n, 0) := by rw [PlanL.best, if_neg h, if_pos k]
theorem best_no {n F : Int} (h : ¬ (n < 128 ∨ 1024 < n ∨ F < 3 ∨ 16 < F)) (k : ¬ PlanL.check F (PlanL.bB n F) (PlanL.bL n) n = 0) : PlanL.best n F = (0, 0, 0, 20) := by rw [PlanL.best, if_neg h, if_neg k]
/-- The best plan and its error, as a result. -/
def bestV (x : Int × Int × Int × Int) : Value := .tuple #[.agg #[.int .i64 x.1, .int .i64 x.2.1, .int .i64 x.2.2.1], .int .i64 x.2.2.2]

theorem tdiv_neg {a : Int} (h : a ≤ 0) : a.tdiv 51 ≤ 0 := by
  rw [show a = -(-a) by omega, Int.neg_tdiv]
  have := Int.tdiv_nonneg (a := -a) (b := 51) (by omega) (by omega)
  omega
theorem bB_val {n F : Int} (h1 : 128 ≤ n) (h2 : n ≤ 1024) (h3 : 3 ≤ F) : PlanL.bB n F = (n - 24 - 1 - F * 33) / 51 := by unfold PlanL.bB; rw [if_neg (by omega)]
theorem bL_val {n : Int} (h1 : 128 ≤ n) (h2 : n ≤ 1024) : PlanL.bL n = (n - 24) / 50 := by unfold PlanL.bL; rw [if_neg (by omega)]

set_option maxHeartbeats 1000000 in
theorem best_any (n F : Int) (w : World) :
    Calls Try.prog 43 #[.int .i64 n, .int .i64 F] w fun e w' => e = .returned (bestV (PlanL.best n F)) ∧ Below w.heap.size w w' := by
  by_cases h : n < 128 ∨ 1024 < n ∨ F < 3 ∨ 16 < F
  · have Hb := Lib.hid (best_arg h)
    by_cases hn : 128 ≤ n ∧ n ≤ 1024
    · have Hr := Lib.hid (show PlanL.room n = n - 24 by simp [PlanL.room, hn])
      have h0 : (n - 24 == 0) = false := by simp; omega
      obtain ⟨h7, h8⟩ := hn
      rcases (show F < 3 ∨ 16 < F by omega) with h9 | h9
      all_goals
        clear h
        go_enter Try.func43, Try.ntmps43
        go_wp2_with (go_at_call 49; refine (room_any _ _).mono ?_; rintro e w' ⟨rfl, rfl⟩; rw [Hr.out])
        go_returns
        exact ⟨ret_val (by rw [Hb.out]; rfl), by go_grown⟩
    · have Hr := Lib.hid (show PlanL.room n = 0 by simp [PlanL.room]; omega)
      clear h hn
      go_enter Try.func43, Try.ntmps43
      go_wp2_with (go_at_call 49; refine (room_any _ _).mono ?_; rintro e w' ⟨rfl, rfl⟩; rw [Hr.out])
      go_returns
      exact ⟨ret_val (by rw [Hb.out]; rfl), by go_grown⟩
  · obtain ⟨h1, h2, h3, h4⟩ : 128 ≤ n ∧ n ≤ 1024 ∧ 3 ≤ F ∧ F ≤ 16 := by omega
    have Hr := Lib.hid (show PlanL.room n = n - 24 by simp [PlanL.room, h1, h2])
    have h0 : (n - 24 == 0) = false := by simp; omega
    have hm2 : min 64 ((n - 24) / 50) = (n - 24) / 50 := by omega
    by_cases hs : 0 ≤ n - 24 - 1 - F * 33
    · have hm1 : min 64 ((n - 24 - 1 - F * 33) / 51) = (n - 24 - 1 - F * 33) / 51 := by omega
      by_cases hc : PlanL.check F (PlanL.bB n F) (PlanL.bL n) n = 0
      · have Hb := Lib.hid (best_yes h hc)
        rw [bB_val h1 h2 h3, bL_val h1 h2] at hc
        have Hc := Lib.hid hc
        have HB := Lib.hid (bB_val h1 h2 h3)
        have HL := Lib.hid (bL_val h1 h2)
        clear h hc
        go_enter Try.func43, Try.ntmps43
        go_wp2_with (first | (go_at_call 49; refine (room_any _ _).mono ?_; rintro e w' ⟨rfl, rfl⟩; rw [Hr.out]) | (go_at_call 76; refine (thread (check_any _ _ _ _ _) w.heap.size w (by go_grown) (by go_grown)).mono ?_; rintro e w1 ⟨rfl, hB1, hc1, hf1, hs1, hz1⟩; rw [Hc.out]; have hl0 : w.heap.size < w1.heap.size := Nat.lt_of_lt_of_le (by simp only [World.size_alloc]; omega) hs1; have hl1 : w.heap.size + 1 < w1.heap.size := Nat.lt_of_lt_of_le (by simp only [World.size_alloc]; omega) hs1; have e0 := (hc1 w.heap.size 0 (by simp only [World.size_alloc]; omega)).trans (cell_past _ (cell_new w _ _ _ 0)); have e1 := (hc1 w.heap.size 1 (by simp only [World.size_alloc]; omega)).trans (cell_past _ (cell_new w _ _ _ 1)); have e2 := (hc1 w.heap.size 2 (by simp only [World.size_alloc]; omega)).trans (cell_past _ (cell_new w _ _ _ 2))))
        exact bodyPost_ret (v := bestV (F, (n - 24 - 1 - F * 33) / 51, (n - 24) / 50, 0)) (by simp [results, Try.results43, go_sem, e0, e1, e2, bestV]) rfl ⟨ret_val (by rw [Hb.out, HB.out, HL.out]), by go_grown⟩
      · have Hb := Lib.hid (best_no h hc)
        rw [bB_val h1 h2 h3, bL_val h1 h2] at hc
        generalize hg : PlanL.check F ((n - 24 - 1 - F * 33) / 51) ((n - 24) / 50) n = g at hc
        have Hc := Lib.hid hg
        have hne : (g != 0) = true := by simpa using hc
        clear h hc hg
        go_enter Try.func43, Try.ntmps43
        go_wp2_with (first | (go_at_call 49; refine (room_any _ _).mono ?_; rintro e w' ⟨rfl, rfl⟩; rw [Hr.out]) | (go_at_call 76; refine (thread (check_any _ _ _ _ _) w.heap.size w (by go_grown) (by go_grown)).mono ?_; rintro e w1 ⟨rfl, hB1, hc1, hf1, hs1, hz1⟩; rw [Hc.out]; have hl0 : w.heap.size < w1.heap.size := Nat.lt_of_lt_of_le (by simp only [World.size_alloc]; omega) hs1; have hl1 : w.heap.size + 1 < w1.heap.size := Nat.lt_of_lt_of_le (by simp only [World.size_alloc]; omega) hs1; have e0 := (hc1 w.heap.size 0 (by simp only [World.size_alloc]; omega)).trans (cell_past _ (cell_new w _ _ _ 0)); have e1 := (hc1 w.heap.size 1 (by simp only [World.size_alloc]; omega)).trans (cell_past _ (cell_new w _ _ _ 1)); have e2 := (hc1 w.heap.size 2 (by simp only [World.size_alloc]; omega)).trans (cell_past _ (cell_new w _ _ _ 2))))
        exact bodyPost_ret (v := bestV (0, 0, 0, 20)) (by simp [results, Try.results43, go_sem, e0, e1, e2, bestV]) rfl ⟨ret_val (by rw [Hb.out]), by go_grown⟩
    · have hq : (n - 24 - 1 - F * 33).tdiv 51 ≤ 0 := tdiv_neg (by omega)
      have hm1 : min 64 ((n - 24 - 1 - F * 33).tdiv 51) = (n - 24 - 1 - F * 33).tdiv 51 := by omega
      have hc2 : ∀ L, PlanL.check F ((n - 24 - 1 - F * 33).tdiv 51) L n = 2 := fun L => by
        have := (PlanL.right_not F ((n - 24 - 1 - F * 33).tdiv 51) L).2 (by omega)
        rw [PlanL.check, if_pos (Or.inl this)]
      have Hc := Lib.hid (hc2 ((n - 24) / 50))
      have Hb := Lib.hid (best_no h (by rw [PlanL.check_zero, bB_val h1 h2 h3]; omega))
      clear h hc2 hs
      go_enter Try.func43, Try.ntmps43
      go_wp2_with (first | (go_at_call 49; refine (room_any _ _).mono ?_; rintro e w' ⟨rfl, rfl⟩; rw [Hr.out]) | (go_at_call 76; refine (thread (check_any _ _ _ _ _) w.heap.size w (by go_grown) (by go_grown)).mono ?_; rintro e w1 ⟨rfl, hB1, hc1, hf1, hs1, hz1⟩; rw [Hc.out]; have hl0 : w.heap.size < w1.heap.size := Nat.lt_of_lt_of_le (by simp only [World.size_alloc]; omega) hs1; have hl1 : w.heap.size + 1 < w1.heap.size := Nat.lt_of_lt_of_le (by simp only [World.size_alloc]; omega) hs1; have e0 := (hc1 w.heap.size 0 (by simp only [World.size_alloc]; omega)).trans (cell_past _ (cell_new w _ _ _ 0)); have e1 := (hc1 w.heap.size 1 (by simp only [World.size_alloc]; omega)).trans (cell_past _ (cell_new w _ _ _ 1)); have e2 := (hc1 w.heap.size 2 (by simp only [World.size_alloc]; omega)).trans (cell_past _ (cell_new w _ _ _ 2))))
      exact bodyPost_ret (v := bestV (0, 0, 0, 20)) (by simp [results, Try.results43, go_sem, e0, e1, e2, bestV]) rfl ⟨ret_val (by rw [Hb.out]), by go_grown⟩

end Go.Proofs.Ytlmlmkeomlehmaa
