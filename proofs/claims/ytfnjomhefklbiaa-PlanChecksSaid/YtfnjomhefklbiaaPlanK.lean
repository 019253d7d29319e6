/-
  The walk of the statement PlanChecks.
-/
import Derived.Test.YtfnjomhefklbiaaPlanM
namespace Go.Proofs.Ytfnjomhefklbiaa
open Go.RowKit
attribute [local go_sem ↓] Go.wp_at_zero Go.wp_at_succ

/-- A block whose first three cells are these numbers. -/
def Three (b : Nat) (x y z : Int) (w : World) : Prop := b < w.heap.size ∧ w.cell? ⟨b, 0, none⟩ = some (.int .i64 x) ∧ w.cell? ⟨b, 1, none⟩ = some (.int .i64 y) ∧ w.cell? ⟨b, 2, none⟩ = some (.int .i64 z)
theorem Three.kept {b : Nat} {x y z : Int} {w w' : World} (h : Three b x y z w) (hs : w.heap.size ≤ w'.heap.size) (hc : ∀ b o, b < w.heap.size → w'.cell? ⟨b, o, none⟩ = w.cell? ⟨b, o, none⟩) : Three b x y z w' :=
  ⟨Nat.lt_of_lt_of_le h.1 hs, (hc _ _ h.1).trans h.2.1, (hc _ _ h.1).trans h.2.2.1, (hc _ _ h.1).trans h.2.2.2⟩
theorem Three.alloc {b : Nat} {x y z : Int} {w : World} (h : Three b x y z w) (o : Obj) : Three b x y z (w.alloc o) :=
  h.kept (by simp) (fun b i hb => Below.cell (B := w.heap.size) (w := w) ((Below.refl _ _).alloc (Nat.le_refl _) o) (p := ⟨b, i, none⟩) hb)
theorem Three.drewN {b : Nat} {x y z : Int} {w : World} (h : Three b x y z w) (n : Nat) : Three b x y z (w.drewN n) := h
theorem Ints.drewN {B m : Nat} {w : World} (h : Ints B m w) (n : Nat) : Ints B m (w.drewN n) := h

/-- A contract carried on, with the blocks of numbers. -/
theorem carryI {P : Program} {f : FuncId} {args : Array Value} {w : World} {R : Ending → World → Prop}
    (hc : Calls P f args w (fun e w' => R e w' ∧ Below w.heap.size w w')) (M B : Nat) (w0 : World) (hM : M < w.heap.size) (h0 : Below B w0 w) (hB : B ≤ M) :
    Calls P f args w (fun e w' => R e w' ∧ (∀ b o v, b ≤ M → w.cell? ⟨b, o, none⟩ = some v → w'.cell? ⟨b, o, none⟩ = some v) ∧ M < w'.heap.size ∧ Below B w0 w' ∧ (∀ b m, b ≤ M → Ints b m w → Ints b m w')) :=
  hc.mono fun _ _ ⟨hr, hb⟩ => ⟨hr, fun b o v h1 h2 => (hb.cell (p := ⟨b, o, none⟩) (by show b < _; omega)).trans h2, Nat.lt_of_lt_of_le hM hb.size, h0.trans (hb.mono (by omega)), fun _ _ h1 h2 => h2.below hb (by omega)⟩

set_option maxHeartbeats 4000000 in
theorem planChecks_walk (a b c n : Int) (w : World) :
    Calls Try.prog 3 #[.agg #[.int .i64 a, .int .i64 b, .int .i64 c], .int .i64 n] w fun e w' => e = .returned (.bool true) ∧ Below w.heap.size w w' := by
  have hmax := fun ts t a b w => run_imax (P := Try.prog) ts t a b w
  have ha := (imax_le 0 a).1
  have hb := (imax_le 0 b).1
  have hc := (imax_le 0 c).1
  have hn := (imax_le 0 n).1
  go_enter Try.func3, Try.ntmps3
  go_wp2_with fail
  go_loopw [38] (fun i wr => ∃ k : Nat, k ≤ 2 ∧ i = .int .i64 k ∧ Ints (w.heap.size + 1) 6 wr ∧ Below w.heap.size w wr) (fun i _ => 2 - (intOf i).toNat)
  case atStart =>
    refine ⟨0, by omega, rfl, ⟨by simp, fun j hj => ?_⟩, by go_grown⟩
    rw [show w.heap.size + 1 = (w.alloc (.cells #[.int .i64 a, .int .i64 b, .int .i64 c] 22)).heap.size by simp]
    match j, hj with
    | 0, _ => exact ⟨_, cell_new _ _ _ _ _⟩
    | 1, _ => exact ⟨_, cell_new _ _ _ _ _⟩
    | 2, _ => exact ⟨_, cell_new _ _ _ _ _⟩
    | 3, _ => exact ⟨_, cell_new _ _ _ _ _⟩
    | 4, _ => exact ⟨_, cell_new _ _ _ _ _⟩
    | 5, _ => exact ⟨_, cell_new _ _ _ _ _⟩
  case round =>
    obtain ⟨k, hk, rfl, hI, hB⟩ := hrel
    have hz := hB.size
    by_cases hlt : k < 2
    · obtain ⟨F, hx⟩ := hI.2 (k * 3) (by omega)
      obtain ⟨B, hy⟩ := hI.2 (k * 3 + 1) (by omega)
      obtain ⟨L, hl⟩ := hI.2 (k * 3 + 2) (by omega)
      obtain ⟨hI1, -⟩ := id hI
      have hlt' : (k : Int) < 2 := by omega
      have HI := Lib.hid hI
      clear hI
      go_wp2_with fail
      obtain ⟨wo, rfl⟩ : ∃ wo : World, wo = wr := ⟨_, rfl⟩
      go_loopw [50] (fun i wr => ∃ k : Nat, k ≤ 2 ∧ i = .int .i64 k ∧ Ints (wo.heap.size + 2) 2 wr ∧ Three wo.heap.size F B L wr ∧ Three (wo.heap.size + 1) F B L wr ∧ Ints (w.heap.size + 1) 6 wr ∧ Below w.heap.size w wr) (fun i _ => 2 - (intOf i).toNat)
      case atStart =>
        have hzo : wo.heap.size + 2 = ((wo.alloc (.cells #[.int .i64 F, .int .i64 B, .int .i64 L] 24)).alloc (.cells #[.int .i64 F, .int .i64 B, .int .i64 L] 26)).heap.size := by simp
        refine ⟨0, by omega, rfl, ⟨by simp, fun j hj => ?_⟩, ⟨by simp; omega, by simp [go_sem], by simp [go_sem], by simp [go_sem]⟩, ⟨by simp, by simp [go_sem], by simp [go_sem], by simp [go_sem]⟩, ((HI.out.alloc _).alloc _).alloc _, by go_grown⟩
        rw [hzo]
        match j, hj with
        | 0, _ => exact ⟨_, cell_new _ _ _ _ _⟩
        | 1, _ => exact ⟨_, cell_new _ _ _ _ _⟩
      case round =>
        obtain ⟨m, hm, rfl, hJ, hT6, hT7, hI, hB⟩ := hrel
        have hzr := hB.size
        by_cases hlm : m < 2
        · obtain ⟨sz, hsz⟩ := hJ.2 m (by omega)
          obtain ⟨hJ1, -⟩ := id hJ
          obtain ⟨-, a0, a1, a2⟩ := hT6
          obtain ⟨-, b0, b1, b2⟩ := hT7
          have hlm' : (m : Int) < 2 := by omega
          have HI := Lib.hid hI
          have HJ := Lib.hid hJ
          clear hI hJ hI1 hx hy hl
          go_wp2_with fail
          go_region_held3 (fun w' => w'.cell? ⟨wo.heap.size, 0, none⟩ = some (.int .i64 F) ∧ w'.cell? ⟨wo.heap.size, 1, none⟩ = some (.int .i64 B) ∧ w'.cell? ⟨wo.heap.size, 2, none⟩ = some (.int .i64 L) ∧ w'.cell? ⟨wo.heap.size + 1, 0, none⟩ = some (.int .i64 F) ∧ w'.cell? ⟨wo.heap.size + 1, 1, none⟩ = some (.int .i64 B) ∧ w'.cell? ⟨wo.heap.size + 1, 2, none⟩ = some (.int .i64 L) ∧ wo.heap.size + 2 < w'.heap.size)
            (first | assumption | go_keep)
            (first | (go_at_call 9; (obtain ⟨q0, q1, q2, q3, q4, q5, hM⟩ := ‹_ ∧ _›; refine (carryI (check_any _ _ _ _ _) (wo.heap.size + 2) w.heap.size w hM (by go_grown) (by omega)).mono ?_; rintro e wx ⟨rfl, hk, hMx, hBx, hIx⟩; have t0 := hk _ _ _ (by omega) q0; have t1 := hk _ _ _ (by omega) q1; have t2 := hk _ _ _ (by omega) q2; have t3 := hk _ _ _ (by omega) q3; have t4 := hk _ _ _ (by omega) q4; have t5 := hk _ _ _ (by omega) q5; have HI := Lib.hid (hIx _ _ (by omega) HI.out); have HJ := Lib.hid (hIx _ _ (by omega) HJ.out); clear hk hIx q0 q1 q2 q3 q4 q5 hM)) | (go_at_call 10; (obtain ⟨q0, q1, q2, q3, q4, q5, hM⟩ := ‹_ ∧ _›; refine (carryI (refCheck18_any _ _ _ _ _) (wo.heap.size + 2) w.heap.size w hM (by go_grown) (by omega)).mono ?_; rintro e wx ⟨rfl, hk, hMx, hBx, hIx⟩; have t0 := hk _ _ _ (by omega) q0; have t1 := hk _ _ _ (by omega) q1; have t2 := hk _ _ _ (by omega) q2; have t3 := hk _ _ _ (by omega) q3; have t4 := hk _ _ _ (by omega) q4; have t5 := hk _ _ _ (by omega) q5; have HI := Lib.hid (hIx _ _ (by omega) HI.out); have HJ := Lib.hid (hIx _ _ (by omega) HJ.out); clear hk hIx q0 q1 q2 q3 q4 q5 hM)))
          go_wp2_with fail
          obtain ⟨q0, q1, q2, q3, q4, q5, hM⟩ := ‹_ ∧ _›
          go_roundw
          case rel => exact ⟨m + 1, by omega, by go_num, HJ.out, ⟨by omega, q0, q1, q2⟩, ⟨by omega, q3, q4, q5⟩, HI.out, by go_grown⟩
          case measure => simp [intOf]; omega
        · obtain rfl : m = 2 := by omega
          clear hJ hI1 hx hy hl
          obtain ⟨hT60, a0, a1, a2⟩ := hT6
          obtain ⟨hT70, b0, b1, b2⟩ := hT7
          have HI := Lib.hid hI
          clear hI
          go_wp2_with fail
          refine (carryI (refBytes_any _ _ _ _) (wo.heap.size + 1) w.heap.size w hT70 (by go_grown) (by omega)).mono ?_
          rintro e w1 ⟨rfl, hk, hM1, hB1, hI1⟩
          have HI := Lib.hid (hI1 _ _ (by omega) HI.out)
          have a0 := hk _ _ _ (by omega) a0
          have a1 := hk _ _ _ (by omega) a1
          have a2 := hk _ _ _ (by omega) a2
          have b0 := hk _ _ _ (by omega) b0
          have b1 := hk _ _ _ (by omega) b1
          have b2 := hk _ _ _ (by omega) b2
          clear hk hI1
          go_wp2_with fail
          refine (carryI (refRight_any _ _ _ _) (wo.heap.size + 1) w.heap.size w hM1 (by go_grown) (by omega)).mono ?_
          rintro e w2 ⟨rfl, hk, hM2, hB2, hI1⟩
          have HI := Lib.hid (hI1 _ _ (by omega) HI.out)
          have a0 := hk _ _ _ (by omega) a0
          have a1 := hk _ _ _ (by omega) a1
          have a2 := hk _ _ _ (by omega) a2
          clear hk hI1
          by_cases hrt : PlanL.right F B L = true
          · obtain ⟨h1, h2, h3, h4, h5, h6⟩ := (PlanL.right_iff F B L).1 hrt
            have hmx : imax 1 F = F := by have := imax_le 1 F; omega
            have Hle := Lib.hid (show PlanL.least F B L = B / F by rw [PlanL.least, if_pos hrt])
            go_wp2_with (first
              | (go_at_call 13; refine (carryI (nodeBytes_any _ _ _ _) (wo.heap.size + 1) w.heap.size w (by assumption) (by go_grown) (by omega)).mono ?_; rintro e w3 ⟨rfl, hk, hM3, hB3, hI3⟩; have HI := Lib.hid (hI3 _ _ (by omega) HI.out); have a0 := hk _ _ _ (by omega) a0; have a1 := hk _ _ _ (by omega) a1; have a2 := hk _ _ _ (by omega) a2; clear hk hI3)
              | (go_at_call 14; refine (carryI (leafBytes_any _ _ _ _) (wo.heap.size + 1) w.heap.size w (by assumption) (by go_grown) (by omega)).mono ?_; rintro e w4 ⟨rfl, hk, hM4, hB4, hI4⟩; have HI := Lib.hid (hI4 _ _ (by omega) HI.out); have a0 := hk _ _ _ (by omega) a0; have a1 := hk _ _ _ (by omega) a1; have a2 := hk _ _ _ (by omega) a2; clear hk hI4)
              | (go_at_call 15; refine (carryI (least_any _ _ _ _) (wo.heap.size + 1) w.heap.size w (by assumption) (by go_grown) (by omega)).mono ?_; rw [Hle.out]; rintro e w5 ⟨rfl, hk, hM5, hB5, hI5⟩; have HI := Lib.hid (hI5 _ _ (by omega) HI.out); clear hk hI5))
            go_roundw
            case rel => exact ⟨k + 1, by omega, by go_num, HI.out, by go_grown⟩
            case measure => simp [intOf]; omega
          · have hrf : PlanL.right F B L = false := by simpa using hrt
            have Hle := Lib.hid (show PlanL.least F B L = 0 by rw [PlanL.least, if_neg hrt])
            clear hrt
            go_wp2_with (first
              | (go_at_call 13; refine (carryI (nodeBytes_any _ _ _ _) (wo.heap.size + 1) w.heap.size w (by assumption) (by go_grown) (by omega)).mono ?_; rintro e w3 ⟨rfl, hk, hM3, hB3, hI3⟩; have HI := Lib.hid (hI3 _ _ (by omega) HI.out); have a0 := hk _ _ _ (by omega) a0; have a1 := hk _ _ _ (by omega) a1; have a2 := hk _ _ _ (by omega) a2; clear hk hI3)
              | (go_at_call 14; refine (carryI (leafBytes_any _ _ _ _) (wo.heap.size + 1) w.heap.size w (by assumption) (by go_grown) (by omega)).mono ?_; rintro e w4 ⟨rfl, hk, hM4, hB4, hI4⟩; have HI := Lib.hid (hI4 _ _ (by omega) HI.out); have a0 := hk _ _ _ (by omega) a0; have a1 := hk _ _ _ (by omega) a1; have a2 := hk _ _ _ (by omega) a2; clear hk hI4)
              | (go_at_call 15; refine (carryI (least_any _ _ _ _) (wo.heap.size + 1) w.heap.size w (by assumption) (by go_grown) (by omega)).mono ?_; rw [Hle.out]; rintro e w5 ⟨rfl, hk, hM5, hB5, hI5⟩; have HI := Lib.hid (hI5 _ _ (by omega) HI.out); clear hk hI5))
            go_roundw
            case rel => exact ⟨k + 1, by omega, by go_num, HI.out, by go_grown⟩
            case measure => simp [intOf]; omega
    · obtain rfl : k = 2 := by omega
      go_wp2_with (go_at_call 16; refine (thread (wakes18 _) w.heap.size w (by go_grown) (by go_grown)).mono ?_; rintro e w1 ⟨rfl, hB1, -, -, -, -⟩)
      go_ret
      exact ⟨rfl, hB1⟩

end Go.Proofs.Ytfnjomhefklbiaa
