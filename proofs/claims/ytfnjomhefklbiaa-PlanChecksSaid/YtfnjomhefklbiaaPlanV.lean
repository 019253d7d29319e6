/-
  The walks of the statements of layer 18.
-/
import Derived.Test.YtfnjomhefklbiaaPlanC
import Derived.Laws.StructEq
namespace Go.Proofs.Ytfnjomhefklbiaa
open Go.RowKit

/-- '==' on two plans. -/
theorem eq_plan (t : TypeId) (ht : t = 24 ∨ t = 26) (a b c x y z : Int) (w : World) :
    (Op.equalIn 10000 t (.agg #[.int .i64 a, .int .i64 b, .int .i64 c]) (.agg #[.int .i64 x, .int .i64 y, .int .i64 z])).run Try.prog w = .ok (a == x && b == y && c == z) w := by
  rcases ht with rfl | rfl
  · have hS : Try.prog.underlying 24 = some (.struct (Try.prog.fieldsOf 24)) := by kernel_rfl
    have hp : Try.prog.stoodInHeld 24 = false := by kernel_rfl
    rw [show (10000 : Nat) = 9999 + 1 from rfl, run_equalIn_agg w 9999 24 _ _ hS hp]
    simp only [Program.fieldsOf, Try.underlying24]
    go_simp
    by_cases h1 : a = x <;> by_cases h2 : b = y <;> by_cases h3 : c = z <;> simp [h1, h2, h3]
  · have hS : Try.prog.underlying 26 = some (.struct (Try.prog.fieldsOf 26)) := by kernel_rfl
    have hp : Try.prog.stoodInHeld 26 = false := by kernel_rfl
    rw [show (10000 : Nat) = 9999 + 1 from rfl, run_equalIn_agg w 9999 26 _ _ hS hp]
    simp only [Program.fieldsOf, Try.underlying26]
    go_simp
    by_cases h1 : a = x <;> by_cases h2 : b = y <;> by_cases h3 : c = z <;> simp [h1, h2, h3]

theorem wake_best : PlanL.best 320 3 = (3, 3, 5, 0) := by decide
theorem wake_c1 : PlanL.check 3 3 5 320 = 0 := by decide
theorem wake_c2 : PlanL.check 3 3 5 255 = 20 := by decide
theorem wake_l : PlanL.least 3 3 5 = 1 := by decide

set_option maxHeartbeats 1000000 in
theorem wakes18 (w : World) :
    Calls Try.prog 16 #[] w fun e w' => e = .returned (.bool true) ∧ Below w.heap.size w w' := by
  have hq := eq_plan 24 (Or.inl rfl)
  go_enter Try.func16, Try.ntmps16
  go_wp2_with fail
  refine (thread (best_any _ _ _) w.heap.size w (by go_grown) (by go_grown)).mono ?_
  rw [wake_best]
  rintro e w1 ⟨rfl, hB1, -, -, -, hz1⟩
  unfold bestV
  go_wp2_with fail
  refine (thread (check_any _ _ _ _ _) w.heap.size w (by go_grown) (by go_grown)).mono ?_
  rw [wake_c1]
  rintro e w2 ⟨rfl, hB2, hc2, -, hs2, hz2⟩
  have hl2 : w1.heap.size < w2.heap.size := Nat.lt_of_lt_of_le (by simp) hs2
  go_wp2_with fail
  refine (thread (check_any _ _ _ _ _) w.heap.size w (by go_grown) (by go_grown)).mono ?_
  rw [wake_c2]
  rintro e w3 ⟨rfl, hB3, hc3, -, hs3, hz3⟩
  have hl3 : w1.heap.size < w3.heap.size := Nat.lt_of_lt_of_le hl2 hs3
  go_wp2_with fail
  refine (thread (least_any _ _ _ _) w.heap.size w (by go_grown) (by go_grown)).mono ?_
  rw [wake_l]
  rintro e w4 ⟨rfl, hB4, hc4, -, hs4, hz4⟩
  go_wp2_with fail
  go_ret
  exact ⟨rfl, by go_grown⟩

/-- A block whose first m cells hold ints. -/
def Ints (B m : Nat) (w : World) : Prop := B < w.heap.size ∧ ∀ j, j < m → ∃ a : Int, w.cell? ⟨B, j, none⟩ = some (.int .i64 a)
theorem Ints.kept {B m : Nat} {w w' : World} (h : Ints B m w) (hs : w.heap.size ≤ w'.heap.size) (hc : ∀ b o, b < w.heap.size → w'.cell? ⟨b, o, none⟩ = w.cell? ⟨b, o, none⟩) : Ints B m w' :=
  ⟨Nat.lt_of_lt_of_le h.1 hs, fun j hj => let ⟨a, ha⟩ := h.2 j hj; ⟨a, (hc B j h.1).trans ha⟩⟩
theorem Ints.alloc {B m : Nat} {w : World} (h : Ints B m w) (o : Obj) : Ints B m (w.alloc o) :=
  h.kept (by simp) (fun b i hb => Below.cell (B := w.heap.size) (w := w) ((Below.refl _ _).alloc (Nat.le_refl _) o) (p := ⟨b, i, none⟩) hb)
theorem Ints.below {B m : Nat} {w w' : World} (h : Ints B m w) {N : Nat} (hb : Below N w w') (hN : B < N) : Ints B m w' :=
  ⟨Nat.lt_of_lt_of_le h.1 hb.size, fun j hj => let ⟨a, ha⟩ := h.2 j hj; ⟨a, (hb.cell (p := ⟨B, j, none⟩) hN).trans ha⟩⟩

set_option maxHeartbeats 4000000 in
theorem planBest_walk (n F : Int) (w : World) :
    Calls Try.prog 4 #[.int .i64 n, .int .i64 F] w fun e w' => e = .returned (.bool true) ∧ Below w.heap.size w w' := by
  have hq := eq_plan 26 (Or.inr rfl)
  go_enter Try.func4, Try.ntmps4
  go_wp2_with fail
  all_goals
    go_loopw [25] (fun i wr => ∃ k : Nat, k ≤ 2 ∧ i = .int .i64 k ∧ Ints w.heap.size 4 wr ∧ Below w.heap.size w wr) (fun i _ => 2 - (intOf i).toNat)
    case atStart =>
      refine ⟨0, by omega, rfl, ⟨by simp, fun j hj => ?_⟩, by go_grown⟩
      match j, hj with
      | 0, _ => exact ⟨_, cell_new _ _ _ _ _⟩
      | 1, _ => exact ⟨_, cell_new _ _ _ _ _⟩
      | 2, _ => exact ⟨_, cell_new _ _ _ _ _⟩
      | 3, _ => exact ⟨_, cell_new _ _ _ _ _⟩
    case round =>
      obtain ⟨k, hk, rfl, hI, hB⟩ := hrel
      have hz := hB.size
      by_cases hlt : k < 2
      · obtain ⟨x, hx⟩ := hI.2 (k * 2) (by omega)
        obtain ⟨y, hy⟩ := hI.2 (k * 2 + 1) (by omega)
        obtain ⟨hI1, -⟩ := id hI
        have hlt' : (k : Int) < 2 := by omega
        have HI := Lib.hid hI
        clear hI
        go_wp2_with fail
        refine (thread (best_any _ _ _) w.heap.size w (by go_grown) (by go_grown)).mono ?_
        rintro e w1 ⟨rfl, hB1, hc1, -, hs1, hz1⟩
        unfold bestV
        generalize hr : PlanL.best x y = r
        have Hr := Lib.hid hr
        clear hr
        have hl1 : wr.heap.size < w1.heap.size := Nat.lt_of_lt_of_le (by simp) hs1
        have HI1 := Lib.hid ((HI.out.alloc _).kept hs1 hc1)
        go_wp2_with fail
        refine (thread (refBest_any _ _ _) w.heap.size w (by go_grown) (by go_grown)).mono ?_
        rw [Hr.out]
        rintro e w2 ⟨rfl, hB2, hc2, -, hs2, hz2⟩
        unfold bestV
        have hl2 : w1.heap.size < w2.heap.size := Nat.lt_of_lt_of_le (by simp) hs2
        have HI2 := Lib.hid ((HI1.out.alloc _).kept hs2 hc2)
        go_wp2_with fail
        go_roundw
        case rel => exact ⟨k + 1, by omega, by go_num, HI2.out.alloc _, by go_grown⟩
        case measure => simp [intOf]; omega
      · obtain rfl : k = 2 := by omega
        go_wp2_with (go_at_call 16; refine (thread (wakes18 _) w.heap.size w (by go_grown) (by go_grown)).mono ?_; rintro e w1 ⟨rfl, hB1, -, -, -, -⟩)
        go_ret
        exact ⟨rfl, hB1⟩

end Go.Proofs.Ytfnjomhefklbiaa
