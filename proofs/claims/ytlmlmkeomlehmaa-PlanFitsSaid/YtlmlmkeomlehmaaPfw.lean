/-
  The walk of the statement PlanFits.
-/
import Derived.Test.YtlmlmkeomlehmaaPfk
import Derived.Test.YtlmlmkeomlehmaaPfa
import Derived.Laws.StructEq
import Derived.Deep.Cut
import Derived.Deep.DeepCutAuto
import Derived.Deep.CutBlock
namespace Go.Proofs.Ytlmlmkeomlehmaa
open Go.RowKit
attribute [local go_sem ↓] Go.wp_at_zero Go.wp_at_succ

theorem eq_plan (a b c x y z : Int) (w : World) :
    (Op.equalIn 10000 92 (.agg #[.int .i64 a, .int .i64 b, .int .i64 c]) (.agg #[.int .i64 x, .int .i64 y, .int .i64 z])).run Try.prog w = .ok (a == x && b == y && c == z) w := by
  have hS : Try.prog.underlying 92 = some (.struct (Try.prog.fieldsOf 92)) := by kernel_rfl
  have hp : Try.prog.stoodInHeld 92 = false := by kernel_rfl
  rw [show (10000 : Nat) = 9999 + 1 from rfl, run_equalIn_agg w 9999 92 _ _ hS hp]
  simp only [Program.fieldsOf, Try.underlying92]
  go_simp
  by_cases h1 : a = x <;> by_cases h2 : b = y <;> by_cases h3 : c = z <;> simp [h1, h2, h3]

theorem wake_best : PlanL.best 320 3 = (3, 3, 5, 0) := by decide
theorem wake_c1 : PlanL.check 3 3 5 320 = 0 := by decide
theorem wake_c2 : PlanL.check 3 3 5 255 = 20 := by decide
theorem wake_l : PlanL.least 3 3 5 = 1 := by decide

set_option maxHeartbeats 1000000 in
theorem wakes18 (w : World) :
    Calls Try.prog 44 #[] w fun e w' => e = .returned (.bool true) ∧ Below w.heap.size w w' := by
  have hq := eq_plan
  go_enter Try.func44, Try.ntmps44
  go_wp2_with fail
  refine (thread (best_any _ _ _) w.heap.size w (by go_grown) (by go_grown)).mono ?_
  rw [wake_best]
  rintro e w1 ⟨rfl, hB1, -, -, -, hz1⟩
  unfold bestV
  go_wp2_with fail
  refine (thread (check_any _ _ _ _ _) w.heap.size w (by go_grown) (by go_grown)).mono ?_
  rw [wake_c1]
  rintro e w2 ⟨rfl, hB2, hc2, -, hs2, hz2⟩
  have hl2 : w1.heap.size < w2.heap.size := Nat.lt_of_lt_of_le (by simp) hs2
  go_wp2_with fail
  refine (thread (check_any _ _ _ _ _) w.heap.size w (by go_grown) (by go_grown)).mono ?_
  rw [wake_c2]
  rintro e w3 ⟨rfl, hB3, hc3, -, hs3, hz3⟩
  have hl3 : w1.heap.size < w3.heap.size := Nat.lt_of_lt_of_le hl2 hs3
  go_wp2_with fail
  refine (thread (least_any _ _ _ _) w.heap.size w (by go_grown) (by go_grown)).mono ?_
  rw [wake_l]
  rintro e w4 ⟨rfl, hB4, hc4, -, hs4, hz4⟩
  go_wp2_with fail
  go_ret
  exact ⟨rfl, by go_grown⟩

theorem best_two (n F : Int) (h1 : 128 ≤ n) (h2 : n ≤ 1024) (h3 : 3 ≤ F) (h4 : F ≤ 16) :
    PlanL.best n F = (0, 0, 0, 20) ∨ ∃ B L : Nat, PlanL.best n F = (F, (B : Int), (L : Int), (0 : Int)) ∧ F ≤ B ∧ B ≤ 64 ∧ 2 ≤ L ∧ L ≤ 64 ∧ 1 + 33 * F + 51 * (B : Int) ≤ n - 24 ∧ 50 * (L : Int) ≤ n - 24 := by
  have h : ¬ (n < 128 ∨ 1024 < n ∨ F < 3 ∨ 16 < F) := by omega
  by_cases hc : PlanL.check F (PlanL.bB n F) (PlanL.bL n) n = 0
  · right
    rw [best_yes h hc]
    obtain ⟨-, -, k3, k4, k5, k6, -, -, k9, k10⟩ := (PlanL.check_zero _ _ _ _).1 hc
    obtain ⟨B, hB⟩ := Int.eq_ofNat_of_zero_le (show 0 ≤ PlanL.bB n F by omega)
    obtain ⟨L, hL⟩ := Int.eq_ofNat_of_zero_le (show 0 ≤ PlanL.bL n by omega)
    rw [hB] at k3 k4 k9
    rw [hL] at k5 k6 k10
    rw [hB, hL]
    exact ⟨B, L, rfl, k3, by omega, by omega, by omega, k9, k10⟩
  · exact Or.inl (best_no h hc)

set_option maxRecDepth 100000 in
set_option maxHeartbeats 16000000 in
theorem planFits_walk (a b : Int) (f : UInt8) (long : Bool) (w : World) :
    Calls Try.prog 11 #[.agg #[.int .i64 a, .int .i64 b], .int .u8 f.toNat, .bool long] w fun e w' => e = .returned (.bool true) ∧ Below w.heap.size w w' := by
  have hmax := fun ts t a b w => run_bmax (P := Try.prog) ts t a b w
  have ha : 0 ≤ bmax 0 a := by unfold bmax; split <;> omega
  have hb : 0 ≤ bmax 0 b := by unfold bmax; split <;> omega
  have hn : 128 ≤ 320 + bmax 0 a % 705 ∧ 320 + bmax 0 a % 705 ≤ 1024 := by omega
  have hF : 3 ≤ 3 + bmax 0 b % 2 ∧ 3 + bmax 0 b % 2 ≤ 4 := by omega
  go_enter Try.func11, Try.ntmps11
  go_upto_region 1 with (fail)
  have hL : Below w.heap.size w w := Below.refl _ _
  obtain ⟨W, hW_W⟩ : ∃ W, W = ((w.alloc (.cells #[.int .i64 a, .int .i64 b] 101)).alloc (.cells #[.int .u8 f.toNat] 5)) := ⟨_, rfl⟩
  rw [← hW_W]
  have hX_W : Below w.heap.size w W := by rw [hW_W]; go_grown
  have gx0 : W.cell? ⟨w.heap.size, 0, none⟩ = some (.int .i64 a) := by rw [hW_W, World.cell?_alloc_past _ _ _ (by simp <;> omega), World.cell?_alloc_at _ _ _ _ (by simp)]; rfl
  have gx1 : W.cell? ⟨w.heap.size, 1, none⟩ = some (.int .i64 b) := by rw [hW_W, World.cell?_alloc_past _ _ _ (by simp <;> omega), World.cell?_alloc_at _ _ _ _ (by simp)]; rfl
  have gf0 : W.cell? ⟨w.heap.size + 1, 0, none⟩ = some (.int .u8 f.toNat) := by rw [hW_W, World.cell?_alloc_at _ _ _ _ (by simp)]; rfl
  clear hW_W
  have hz_W := hX_W.size
  replace hL := hL.trans (hX_W.mono hL.size)
  clear hX_W
  have hwz : w.heap.size + 1 < W.heap.size := World.block_lt_of_cell? W _ gf0
  go_wp2_with fail
  generalize 320 + bmax 0 a % 705 = n at *
  generalize 3 + bmax 0 b % 2 = F0 at *
  obtain ⟨n1, n2⟩ := hn
  obtain ⟨f1, f2⟩ := hF
  obtain ⟨F, rfl⟩ := Int.eq_ofNat_of_zero_le (show 0 ≤ F0 by omega)
  refine (thread (best_any n F W) W.heap.size W (Below.refl _ _) (Nat.le_refl _)).mono ?_
  rcases best_two n F n1 n2 f1 (by omega) with hbt | ⟨B, L, hbt, h3, h4, h5, h6, h7, h8⟩
  · rw [hbt]
    unfold bestV
    rintro e w1 ⟨rfl, hX_w1, -, -, -, hz_w1⟩
    replace gx0 := kept_cell hX_w1 gx0
    replace gx1 := kept_cell hX_w1 gx1
    replace gf0 := kept_cell hX_w1 gf0
    replace hL := hL.trans (hX_w1.mono hL.size)
    clear hX_w1
    clear gx0 gx1 gf0
    go_upto_region 3 with (fail)
    obtain ⟨W1, hW_W1⟩ : ∃ W1, W1 = (w1.alloc (.cells #[.int .i64 0, .int .i64 0, .int .i64 0] 92)) := ⟨_, rfl⟩
    rw [← hW_W1]
    have hX_W1 : Below w1.heap.size w1 W1 := by rw [hW_W1]; go_grown
    have gp0 : W1.cell? ⟨w1.heap.size, 0, none⟩ = some (.int .i64 0) := by rw [hW_W1, World.cell?_alloc_at _ _ _ _ (by simp)]; rfl
    have gp1 : W1.cell? ⟨w1.heap.size, 1, none⟩ = some (.int .i64 0) := by rw [hW_W1, World.cell?_alloc_at _ _ _ _ (by simp)]; rfl
    have gp2 : W1.cell? ⟨w1.heap.size, 2, none⟩ = some (.int .i64 0) := by rw [hW_W1, World.cell?_alloc_at _ _ _ _ (by simp)]; rfl
    clear hW_W1
    have hz_W1 := hX_W1.size
    replace hL := hL.trans (hX_W1.mono hL.size)
    clear hX_W1
    go_wp2_with fail
    refine (thread (wakes18 W1) W1.heap.size W1 (Below.refl _ _) (Nat.le_refl _)).mono ?_
    rintro e w2 ⟨rfl, hX_w2, -, -, -, hz_w2⟩
    replace gp0 := kept_cell hX_w2 gp0
    replace gp1 := kept_cell hX_w2 gp1
    replace gp2 := kept_cell hX_w2 gp2
    replace hL := hL.trans (hX_w2.mono hL.size)
    clear hX_w2
    go_wp2_with fail
    refine (thread (wakes18 w2) w2.heap.size w2 (Below.refl _ _) (Nat.le_refl _)).mono ?_
    rintro e w3 ⟨rfl, hX_w3, -, -, -, hz_w3⟩
    replace gp0 := kept_cell hX_w3 gp0
    replace gp1 := kept_cell hX_w3 gp1
    replace gp2 := kept_cell hX_w3 gp2
    replace hL := hL.trans (hX_w3.mono hL.size)
    clear hX_w3
    go_wp2_with fail
    go_ret
    exact ⟨rfl, hL⟩
  · rw [hbt]
    unfold bestV
    rintro e w1 ⟨rfl, hX_w1, -, -, -, hz_w1⟩
    replace gx0 := kept_cell hX_w1 gx0
    replace gx1 := kept_cell hX_w1 gx1
    replace gf0 := kept_cell hX_w1 gf0
    replace hL := hL.trans (hX_w1.mono hL.size)
    clear hX_w1
    clear gx0 gx1
    go_upto_region 3 with (fail)
    obtain ⟨W1, hW_W1⟩ : ∃ W1, W1 = (w1.alloc (.cells #[.int .i64 F, .int .i64 B, .int .i64 L] 92)) := ⟨_, rfl⟩
    rw [← hW_W1]
    have hX_W1 : Below w1.heap.size w1 W1 := by rw [hW_W1]; go_grown
    have gp0 : W1.cell? ⟨w1.heap.size, 0, none⟩ = some (.int .i64 F) := by rw [hW_W1, World.cell?_alloc_at _ _ _ _ (by simp)]; rfl
    have gp1 : W1.cell? ⟨w1.heap.size, 1, none⟩ = some (.int .i64 B) := by rw [hW_W1, World.cell?_alloc_at _ _ _ _ (by simp)]; rfl
    have gp2 : W1.cell? ⟨w1.heap.size, 2, none⟩ = some (.int .i64 L) := by rw [hW_W1, World.cell?_alloc_at _ _ _ _ (by simp)]; rfl
    clear hW_W1
    have hz_W1 := hX_W1.size
    replace gf0 := kept_cell hX_W1 gf0
    replace hL := hL.trans (hX_W1.mono hL.size)
    clear hX_W1
    have gw1 : w1.heap.size < W1.heap.size := World.block_lt_of_cell? W1 _ gp0
    go_wp2_with fail
    refine (thread (wakes18 W1) W1.heap.size W1 (Below.refl _ _) (Nat.le_refl _)).mono ?_
    rintro e w2 ⟨rfl, hX_w2, -, -, -, hz_w2⟩
    replace gf0 := kept_cell hX_w2 gf0
    replace gp0 := kept_cell hX_w2 gp0
    replace gp1 := kept_cell hX_w2 gp1
    replace gp2 := kept_cell hX_w2 gp2
    replace hL := hL.trans (hX_w2.mono hL.size)
    clear hX_w2
    go_upto_if 50 with (fail)
    go_cut [11] (fun s wx => ∃ v : List UInt8, s = .string (S v) ∧ v.length ≤ 32 ∧ Below w2.heap.size w2 wx)
    case first =>
      cases long
      · go_wp2_with fail
        go_meet
        exact ⟨[], rfl, by simp, Below.refl _ _⟩
      · go_wp2_with fail
        refine (thread (repeat_any 118 32 w2 (by omega)) w2.heap.size w2 (Below.refl _ _) (Nat.le_refl _)).mono ?_
        rintro e w3 ⟨rfl, hX_w3, -, -, -, hz_w3⟩
        go_wp2_with fail
        go_meet
        exact ⟨_, rfl, by simp, hX_w3⟩
    case rest =>
      obtain ⟨v, rfl, hv, hX_w3⟩ := hcut
      obtain ⟨w3, hw3⟩ : ∃ w3, w3 = wc := ⟨_, rfl⟩
      subst hw3
      replace gf0 := kept_cell hX_w3 gf0
      replace gp0 := kept_cell hX_w3 gp0
      replace gp1 := kept_cell hX_w3 gp1
      replace gp2 := kept_cell hX_w3 gp2
      replace hL := hL.trans (hX_w3.mono hL.size)
      have hz_w3 := hX_w3.size
      clear hX_w3
      go_upto_region 12 with (fail)
      have HF := Lib.hid (FitAt.new f v w3)
      have HL3 := Lib.hid hL
      have gN1 : w1.heap.size < w3.heap.size := by omega
      have gN0 : w.heap.size + 1 < w3.heap.size := by omega
      have G3 := Lib.hid (show w3.cell? ⟨w.heap.size + 1, 0, none⟩ = some (.int .u8 f.toNat) ∧ w3.cell? ⟨w1.heap.size, 0, none⟩ = some (.int .i64 F) ∧ w3.cell? ⟨w1.heap.size, 1, none⟩ = some (.int .i64 B) ∧ w3.cell? ⟨w1.heap.size, 2, none⟩ = some (.int .i64 L) from ⟨gf0, gp0, gp1, gp2⟩)
      replace gp0 := HF.out.old gp0 gN1
      clear gf0 gp1 gp2
      clear hL
      generalize (((w3.alloc (.cells #[.slice none 0 0, .slice none 0 0] 31)).alloc (.cells #[.slice none 0 0] 29)).alloc (.cells #[.slice none 0 0] 108)) = W3 at *
      obtain ⟨i0, hi, iz0, iz1, iz2⟩ := info_parts infoC
      go_wp2_with fail
      go_loopw [54] (fun i wr => ∃ (j : Nat) (ca : Option Addr) (cy : Nat), i = .int .i64 j ∧ j ≤ F ∧ Hid (FitAt w3.heap.size f v w3 wr j ca cy 0 none 0 0 none 0)) (fun i _ => F - (intOf i).toNat)
      case atStart => exact ⟨0, none, 0, rfl, Nat.zero_le _, HF⟩
      case round =>
        obtain ⟨j, ca, cy, rfl, hj, HZ⟩ := hrel
        have hj0 : (0 : Int) ≤ (j : Int) := Int.natCast_nonneg _
        by_cases hjF : j < F
        · have hj1 : (j : Int) < (F : Int) := by omega
          have p0 := HZ.out.c0
          have pf := HZ.out.fz 0 0 (by omega)
          have HOW := Lib.hid HZ.out.own
          have hzr := HZ.out.sz
          have hbr := HZ.out.low.size
          by_cases hjz : j = 0
          · subst hjz
            have HCL := Lib.hid (show cellsC (csF f 0) ++ [.string ⟨#[]⟩, .int .i64 0, .int .u64 0, .int .u32 0] = cellsC (csF f (0 + 1)) from rfl)
            go_wp2_with (at_builtin; go_must (refine wpList_append_own_at _ rfl (.tmp 63) (.tmp 68) 26 rfl (w3.heap.size + 3) 100 i0 (.agg #[.string ByteArray.empty, .int .i64 0, .int .u64 0, .int .u32 0]) 4 40 Try.underlying26 hi iz0 iz1 iz2 rfl (by decide) _ 0 _ rfl (HOW.out.alloc _) ⟨wr.heap.size, 0, none⟩ 1 1 [.string ⟨#[]⟩, .int .i64 0, .int .u64 0, .int .u32 0] rfl rfl (cell_four_at _ _ rfl _ _ _ _ _) (kid_oneCell _ _ _ _) (by unfold maxLen; omega) (by omega) (by rw [World.size_alloc]; omega) ?_; intro vc wz hownvc hgrowvc _ hatvc; rw [HCL.out] at hownvc; obtain ⟨ac, yc, rfl⟩ := own_form hownvc; have HPA := Lib.hid (HZ.out.on ((Below.refl _ wr).alloc (Nat.le_refl _) (.cells #[.string ⟨#[]⟩, .int .i64 0, .int .u64 0, .int .u32 0] 100))); have hNe : some w3.heap.size ≠ (Value.slice ca 0 cy).ownBlock := (fun e => by have := (HPA.out.own.lt _ e.symm).1; omega); have z0 := hgrowvc.cell HPA.out.c0 hNe; have zf : wz.frozen? ⟨w3.heap.size, 0, none⟩ = false := (World.frozen?_of_block (hgrowvc.block w3.heap.size (by have := HPA.out.sz; omega) hNe)).trans (HPA.out.fz 0 0 (by omega)); have HGR := Lib.hid (HPA.out.putC hgrowvc hownvc ⟨_, rfl, SlU.nil _⟩ ⟨_, rfl, SlE.nil _⟩); clear hatvc hownvc hgrowvc hNe))
            exact ⟨⟨1, ac, yc, rfl, by omega, HGR⟩, by simp [intOf]; omega⟩
          · have hj2 : (0 : Int) < (j : Int) := by omega
            have q0 := HZ.out.old G3.out.1 gN0
            have HK := Lib.hid (fun w' h => keyF_any f (w.heap.size + 1) j w' h (by omega))
            go_wp2_with fail
            refine (thread (HK.out wr q0) wr.heap.size wr (Below.refl _ _) (Nat.le_refl _)).mono ?_
            rintro e wq ⟨rfl, hX_wq, -, -, -, hz_wq⟩
            have HQ := Lib.hid (HZ.out.on hX_wq)
            have HOQ := Lib.hid HQ.out.own
            replace p0 := HQ.out.c0
            replace pf : wq.frozen? ⟨w3.heap.size, 0, none⟩ = false := HQ.out.fz 0 0 (by omega)
            have HCL := Lib.hid (show cellsC (csF f j) ++ [.string (S (keyF f j)), .int .i64 (j : Int), .int .u64 0, .int .u32 0] = cellsC (csF f (j + 1)) by
              rw [csF_succ, cellsC_append, cellsC_one]
              unfold chF Chd.cells
              rw [if_neg hjz]
              rfl)
            clear HZ HOW q0 HK hX_wq
            go_wp2_with (at_builtin; go_must (refine wpList_append_own_at _ rfl (.tmp 63) (.tmp 68) 26 rfl (w3.heap.size + 3) 100 i0 (.agg #[.string ByteArray.empty, .int .i64 0, .int .u64 0, .int .u32 0]) 4 40 Try.underlying26 hi iz0 iz1 iz2 rfl (by decide) _ j _ rfl (HOQ.out.alloc _) ⟨wq.heap.size, 0, none⟩ 1 1 [.string (S (keyF f j)), .int .i64 (j : Int), .int .u64 0, .int .u32 0] rfl rfl (cell_four_at _ _ rfl _ _ _ _ _) (kid_oneCell _ _ _ _) (by unfold maxLen; omega) (by omega) (by rw [World.size_alloc]; omega) ?_; intro vc wz hownvc hgrowvc _ hatvc; rw [HCL.out] at hownvc; obtain ⟨ac, yc, rfl⟩ := own_form hownvc; have HPA := Lib.hid (HQ.out.on ((Below.refl _ wq).alloc (Nat.le_refl _) (.cells #[.string (S (keyF f j)), .int .i64 (j : Int), .int .u64 0, .int .u32 0] 100))); have hNe : some w3.heap.size ≠ (Value.slice ca j cy).ownBlock := (fun e => by have := (HPA.out.own.lt _ e.symm).1; omega); have z0 := hgrowvc.cell HPA.out.c0 hNe; have zf : wz.frozen? ⟨w3.heap.size, 0, none⟩ = false := (World.frozen?_of_block (hgrowvc.block w3.heap.size (by have := HPA.out.sz; omega) hNe)).trans (HPA.out.fz 0 0 (by omega)); have HGR := Lib.hid (HPA.out.putC hgrowvc hownvc ⟨_, rfl, SlU.nil _⟩ ⟨_, rfl, SlE.nil _⟩); clear hatvc hownvc hgrowvc hNe))
            exact ⟨⟨j + 1, ac, yc, by go_num, by omega, HGR⟩, by simp [intOf]; omega⟩
        · obtain rfl : j = F := by omega
          obtain ⟨w4, hw4⟩ : ∃ w4, w4 = wr := ⟨_, rfl⟩
          subst hw4
          have p1 := HZ.out.old G3.out.2.2.1 gN1
          clear HF gp0
          go_wp2_with fail
          go_loopw [74] (fun i wr => ∃ (k : Nat) (ba : Option Addr) (bx : Nat), i = .int .i64 k ∧ k ≤ B ∧ Hid (FitAt w3.heap.size f v w3 wr j ca cy k ba bx 0 none 0)) (fun i _ => B - (intOf i).toNat)
          case atStart => exact ⟨0, none, 0, rfl, Nat.zero_le _, HZ⟩
          case round =>
            clear HZ p1
            obtain ⟨k, ba, bx, rfl, hk, HZ⟩ := hrel
            have hk0 : (0 : Int) ≤ (k : Int) := Int.natCast_nonneg _
            by_cases hkB : k < B
            · have hk1 : (k : Int) < (B : Int) := by omega
              have q0 := HZ.out.old G3.out.1 gN0
              have b0 := HZ.out.b0
              have bf : wr.frozen? ⟨w3.heap.size + 1, 0, none⟩ = false := HZ.out.fz 1 0 (by omega)
              have hzr := HZ.out.sz
              have HK := Lib.hid (fun w' h => keyF_any f (w.heap.size + 1) k w' h (by omega))
              have HW := Lib.hid (fun w' h => fitWith f v hv ba k bx w' (by omega) h)
              go_upto_region 23 with (fail)
              go_region_law (first
                | (go_simp; go_at_call 45; refine (thread (HK.out _ (cell_drew q0)) wr.heap.size wr (below_drew' (Below.refl _ _)) (Nat.le_refl _)).mono ?_; rintro e wq ⟨rfl, hX_wq, -, -, -, hz_wq⟩; have b1 := kept_cell hX_wq b0)
                | (go_simp; go_at_call 25; refine (thread (HW.out _ (HZ.out.on hX_wq).bu) wr.heap.size wr hX_wq hz_wq).mono ?_; rintro e wt ⟨⟨b', x', rfl, hbu⟩, hX_wt, -, -, -, hz_wt⟩; have b2 := (kept_cell hX_wt b0); have f2 := ((bcell hX_wt).2 _ 0 (by omega)).trans bf))
              all_goals
                have HB := Lib.hid ((HZ.out.on hX_wt).putB hbu)
                go_wp2_with fail
                exact ⟨⟨k + 1, b', x', by go_num, by omega, HB⟩, by simp [intOf]; omega⟩
            · obtain rfl : k = B := by omega
              obtain ⟨w5, hw5⟩ : ∃ w5, w5 = wr := ⟨_, rfl⟩
              subst hw5
              have p2 := HZ.out.old G3.out.2.2.2 gN1
              go_wp2_with fail
              go_loopw [87] (fun i wr => ∃ (q : Nat) (la : Option Addr) (lx : Nat), i = .int .i64 q ∧ q ≤ L ∧ Hid (FitAt w3.heap.size f v w3 wr j ca cy k ba bx q la lx)) (fun i _ => L - (intOf i).toNat)
              case atStart => exact ⟨0, none, 0, rfl, Nat.zero_le _, HZ⟩
              case round =>
                clear HZ p2
                obtain ⟨q, la, lx, rfl, hq, HZ⟩ := hrel
                have hq0 : (0 : Int) ≤ (q : Int) := Int.natCast_nonneg _
                by_cases hqL : q < L
                · have hq1 : (q : Int) < (L : Int) := by omega
                  have q0 := HZ.out.old G3.out.1 gN0
                  have b0 : wr.cell? ⟨w3.heap.size + 1 + 1, 0, none⟩ = some (.slice la q lx) := HZ.out.l0
                  have bf : wr.frozen? ⟨w3.heap.size + 1 + 1, 0, none⟩ = false := HZ.out.fz 2 0 (by omega)
                  have hzr := HZ.out.sz
                  have HK := Lib.hid (fun w' h => keyF_any f (w.heap.size + 1) q w' h (by omega))
                  have HW := Lib.hid (fun w' h t => fitOn f v hv la q lx w' (by omega) h t)
                  go_upto_region 28 with (fail)
                  go_region_law (first
                    | (go_simp; go_at_call 45; refine (thread (HK.out _ (cell_drew q0)) wr.heap.size wr (below_drew' (Below.refl _ _)) (Nat.le_refl _)).mono ?_; rintro e wq ⟨rfl, hX_wq, -, -, -, hz_wq⟩; have b1 := kept_cell hX_wq b0; have hzq : w3.heap.size + 1 + 1 < wq.heap.size := Nat.lt_of_lt_of_le hzr hz_wq; have b3 : ∀ o, (wq.alloc o).cell? ⟨w3.heap.size + 1 + 1, 0, none⟩ = some (.slice la q lx) := fun o => (World.cell?_alloc_past _ _ _ hzq).trans b1)
                    | (go_simp; go_at_call 47; refine (HW.out wq (HZ.out.on hX_wq).le _).mono ?_; rintro e wt ⟨⟨b', x', rfl, hle⟩, hB_wt⟩; have hX_wt := hX_wq.trans (hB_wt.mono hz_wq); have b2 := (kept_cell hX_wt b0); have f2 := ((bcell hX_wt).2 _ 0 (by omega)).trans bf))
                  all_goals
                    have HB := Lib.hid ((HZ.out.on hX_wt).putL hle)
                    go_wp2_with fail
                    exact ⟨⟨q + 1, b', x', by go_num, by omega, HB⟩, by simp [intOf]; omega⟩
                · obtain rfl : q = L := by omega
                  obtain ⟨w6, hw6⟩ : ∃ w6, w6 = wr := ⟨_, rfl⟩
                  subst hw6
                  have k0 := HZ.out.c0
                  have k1 := HZ.out.c1
                  have kf : w6.frozen? ⟨w3.heap.size, 1, none⟩ = false := HZ.out.fz 0 1 (by omega)
                  have b0 := HZ.out.b0
                  have b1 : w6.cell? ⟨w3.heap.size + 1 + 1, 0, none⟩ = some (.slice la q lx) := HZ.out.l0
                  have p0 := HZ.out.old G3.out.2.1 gN1
                  have p1 := HZ.out.old G3.out.2.2.1 gN1
                  have p2 := HZ.out.old G3.out.2.2.2 gN1
                  have hL6 := HL3.out.trans (HZ.out.low.mono HL3.out.size)
                  go_upto_region 31 with (fail)
                  have HC6 := Lib.hid (own_base HZ.out.own (Nat.zero_le _))
                  have hne : (⟨w3.heap.size, 1, none⟩ : Addr) ≠ ⟨w3.heap.size, 0, none⟩ := addr_ne (Or.inr (by decide))
                  have hzr := HZ.out.sz
                  have hz3 := HL3.out.size
                  obtain ⟨W7, hW7⟩ : ∃ W7, W7 = w6.setCell ⟨w3.heap.size, 1, none⟩ (.slice ba k bx) := ⟨_, rfl⟩
                  have e0 : W7.cell? ⟨w3.heap.size, 0, none⟩ = some (.slice ca j cy) := by rw [hW7]; exact (World.cell?_setCell_other _ _ _ _ hne).trans k0
                  have e1 : W7.cell? ⟨w3.heap.size, 1, none⟩ = some (.slice ba k bx) := by rw [hW7]; exact World.cell?_setCell_same _ _ _ k1
                  have e2 : W7.cell? ⟨w3.heap.size + 1, 0, none⟩ = some (.slice ba k bx) := by rw [hW7]; exact (World.cell?_setCell_other _ _ _ _ (addr_ne (Or.inl (by omega)))).trans b0
                  have e3 : W7.cell? ⟨w3.heap.size + 1 + 1, 0, none⟩ = some (.slice la q lx) := by rw [hW7]; exact (World.cell?_setCell_other _ _ _ _ (addr_ne (Or.inl (by omega)))).trans b1
                  have e4 : W7.cell? ⟨w1.heap.size, 0, none⟩ = some (.int .i64 j) := by rw [hW7]; exact (World.cell?_setCell_other _ _ _ _ (addr_ne (Or.inl (by omega)))).trans p0
                  have e5 : W7.cell? ⟨w1.heap.size, 1, none⟩ = some (.int .i64 k) := by rw [hW7]; exact (World.cell?_setCell_other _ _ _ _ (addr_ne (Or.inl (by omega)))).trans p1
                  have e6 : W7.cell? ⟨w1.heap.size, 2, none⟩ = some (.int .i64 q) := by rw [hW7]; exact (World.cell?_setCell_other _ _ _ _ (addr_ne (Or.inl (by omega)))).trans p2
                  have hB7 : BoxU W7 (.agg #[.slice ba k bx]) (usF f v k) := by rw [hW7]; exact HZ.out.bu.setAt k1 _
                  have hE7 : BoxE W7 (.agg #[.slice la q lx]) (esF f v q) := by rw [hW7]; exact HZ.out.le.setAt k1 _
                  have hC7 : W7.ownsRow 0 100 4 (.slice ca j cy) j (cellsC (csF f j)) := by rw [hW7]; exact ownsRow_setCell_other (a := ⟨w3.heap.size, 1, none⟩) HC6.out (fun e => by have := (HZ.out.own.lt w3.heap.size e).1; omega) _
                  have hL7 : Below w.heap.size w W7 := by rw [hW7]; exact hL6.setCell (p := ⟨w3.heap.size, 1, none⟩) hz3 _
                  rw [← hW7]
                  have HN := Lib.hid (fitNode f v hv ca ba j k cy bx W7 (by omega) (by omega) (by omega) hC7 hB7)
                  have HE7 := Lib.hid hE7
                  clear hW7 hE7 hB7 hC7 hL6 HC6 HZ k0 k1 kf b0 b1 p0 p1 p2 hne hz3
                  go_wp2_with fail
                  refine (thread HN.out W7.heap.size W7 (Below.refl _ _) (Nat.le_refl _)).mono ?_
                  rintro e w8 ⟨⟨s, rfl, hs1⟩, hX_w8, -, -, -, hz_w8⟩
                  replace e0 := kept_cell hX_w8 e0
                  replace e1 := kept_cell hX_w8 e1
                  replace e2 := kept_cell hX_w8 e2
                  replace e3 := kept_cell hX_w8 e3
                  replace e4 := kept_cell hX_w8 e4
                  replace e5 := kept_cell hX_w8 e5
                  replace e6 := kept_cell hX_w8 e6
                  replace HE7 := Lib.hid (HE7.out.kept hX_w8 (Nat.le_refl _))
                  replace hL7 := hL7.trans (hX_w8.mono hL7.size)
                  clear hX_w8
                  have HE := Lib.hid (fitLeaf f v hv la q lx w8 (by omega) HE7.out)
                  go_wp2_with fail
                  refine (thread HE.out w8.heap.size w8 (Below.refl _ _) (Nat.le_refl _)).mono ?_
                  rintro e w9 ⟨⟨t, rfl, ht1⟩, hX_w9, -, -, -, hz_w9⟩
                  replace e0 := kept_cell hX_w9 e0
                  replace e1 := kept_cell hX_w9 e1
                  replace e2 := kept_cell hX_w9 e2
                  replace e3 := kept_cell hX_w9 e3
                  replace e4 := kept_cell hX_w9 e4
                  replace e5 := kept_cell hX_w9 e5
                  replace e6 := kept_cell hX_w9 e6
                  replace HE7 := Lib.hid (HE7.out.kept hX_w9 (Nat.le_refl _))
                  replace hL7 := hL7.trans (hX_w9.mono hL7.size)
                  clear hX_w9
                  go_upto_region 33 with (fail)
                  refine WQ.region (C := fun w' => Below w9.heap.size w9 w') (by kernel_rfl) (by kernel_rfl) (below_drew' (Below.refl _ _)) ?_
                  refine WQ.want (by rfl) (fun K hK => ?_)
                  refine ⟨.int .i64 0, fun w' hw' => ?_, hK _ ?_⟩
                  · have hq' := hw'
                    go_simp
                  clear hK K
                  (try simp only [Act.put, List.setIfInBounds_toArray, List.set_cons_zero, List.set_cons_succ])
                  refine WQ.want (by rfl) (fun K hK => ?_)
                  refine ⟨.bool true, fun w' hw' => ?_, hK _ ?_⟩
                  · have hq' := hw'
                    go_simp
                  clear hK K
                  (try simp only [Act.put, List.setIfInBounds_toArray, List.set_cons_zero, List.set_cons_succ])
                  refine WQ.want (by rfl) (fun K hK => ?_)
                  refine ⟨.bool true, fun w' hw' => ?_, hK _ ?_⟩
                  · have hq' := hw'
                    go_simp
                  clear hK K
                  (try simp only [Act.put, List.setIfInBounds_toArray, List.set_cons_zero, List.set_cons_succ])
                  refine WQ.want (by rfl) (fun K hK => ?_)
                  refine ⟨.int .i64 0, fun w' hw' => ?_, hK _ ?_⟩
                  · have hq' := hw'
                    go_simp
                  clear hK K
                  (try simp only [Act.put, List.setIfInBounds_toArray, List.set_cons_zero, List.set_cons_succ])
                  refine WQ.want (by rfl) (fun K hK => ?_)
                  refine ⟨.bool true, fun w' hw' => ?_, hK _ ?_⟩
                  · have hq' := hw'
                    go_simp
                  clear hK K
                  (try simp only [Act.put, List.setIfInBounds_toArray, List.set_cons_zero, List.set_cons_succ])
                  refine WQ.want (by rfl) (fun K hK => ?_)
                  refine ⟨.bool true, fun w' hw' => ?_, hK _ ?_⟩
                  · have hq' := hw'
                    go_simp
                  clear hK K
                  (try simp only [Act.put, List.setIfInBounds_toArray, List.set_cons_zero, List.set_cons_succ])
                  refine WQ.want (by rfl) (fun K hK => ?_)
                  refine ⟨.bool true, fun w' hw' => ?_, hK _ ?_⟩
                  · have hq' := hw'
                    go_simp
                  clear hK K
                  (try simp only [Act.put, List.setIfInBounds_toArray, List.set_cons_zero, List.set_cons_succ])
                  refine WQ.want (by rfl) (fun K hK => ?_)
                  refine ⟨.string (S s), fun w' hw' => ?_, hK _ ?_⟩
                  · have hq' := hw'
                    go_simp
                  clear hK K
                  (try simp only [Act.put, List.setIfInBounds_toArray, List.set_cons_zero, List.set_cons_succ])
                  refine WQ.want (by rfl) (fun K hK => ?_)
                  refine ⟨.int .i64 s.length, fun w' hw' => ?_, hK _ ?_⟩
                  · have hq' := hw'
                    go_simp
                  clear hK K
                  (try simp only [Act.put, List.setIfInBounds_toArray, List.set_cons_zero, List.set_cons_succ])
                  refine WQ.want (by rfl) (fun K hK => ?_)
                  refine ⟨.int .i64 n, fun w' hw' => ?_, hK _ ?_⟩
                  · have hq' := hw'
                    go_simp
                  clear hK K
                  (try simp only [Act.put, List.setIfInBounds_toArray, List.set_cons_zero, List.set_cons_succ])
                  refine WQ.want (by rfl) (fun K hK => ?_)
                  refine ⟨.int .i64 (n - 24), fun w' hw' => ?_, hK _ ?_⟩
                  · have hq' := hw'
                    go_simp
                    go_at_call 49
                    refine (fitRoom n _ n1 n2).mono ?_
                    rintro e w6 ⟨he, hb6⟩
                    exact ⟨he, hq'.trans (hb6.mono hq'.size)⟩
                  clear hK K
                  (try simp only [Act.put, List.setIfInBounds_toArray, List.set_cons_zero, List.set_cons_succ])
                  refine WQ.want (by rfl) (fun K hK => ?_)
                  refine ⟨.bool true, fun w' hw' => ?_, hK _ ?_⟩
                  · have hq' := hw'
                    have z0 := kept_cell hw' e0; have z1 := kept_cell hw' e1; have z2 := kept_cell hw' e2; have z3 := kept_cell hw' e3; have z4 := kept_cell hw' e4; have z5 := kept_cell hw' e5; have z6 := kept_cell hw' e6; go_simp; omega
                  clear hK K
                  (try simp only [Act.put, List.setIfInBounds_toArray, List.set_cons_zero, List.set_cons_succ])
                  refine WQ.want (by rfl) (fun K hK => ?_)
                  refine ⟨.bool true, fun w' hw' => ?_, hK _ ?_⟩
                  · have hq' := hw'
                    go_simp
                  clear hK K
                  (try simp only [Act.put, List.setIfInBounds_toArray, List.set_cons_zero, List.set_cons_succ])
                  refine WQ.want (by rfl) (fun K hK => ?_)
                  refine ⟨.bool true, fun w' hw' => ?_, hK _ ?_⟩
                  · have hq' := hw'
                    go_simp
                  clear hK K
                  (try simp only [Act.put, List.setIfInBounds_toArray, List.set_cons_zero, List.set_cons_succ])
                  refine WQ.want (by rfl) (fun K hK => ?_)
                  refine ⟨.string (S t), fun w' hw' => ?_, hK _ ?_⟩
                  · have hq' := hw'
                    go_simp
                  clear hK K
                  (try simp only [Act.put, List.setIfInBounds_toArray, List.set_cons_zero, List.set_cons_succ])
                  refine WQ.want (by rfl) (fun K hK => ?_)
                  refine ⟨.int .i64 t.length, fun w' hw' => ?_, hK _ ?_⟩
                  · have hq' := hw'
                    go_simp
                  clear hK K
                  (try simp only [Act.put, List.setIfInBounds_toArray, List.set_cons_zero, List.set_cons_succ])
                  refine WQ.want (by rfl) (fun K hK => ?_)
                  refine ⟨.int .i64 n, fun w' hw' => ?_, hK _ ?_⟩
                  · have hq' := hw'
                    go_simp
                  clear hK K
                  (try simp only [Act.put, List.setIfInBounds_toArray, List.set_cons_zero, List.set_cons_succ])
                  refine WQ.want (by rfl) (fun K hK => ?_)
                  refine ⟨.int .i64 (n - 24), fun w' hw' => ?_, hK _ ?_⟩
                  · have hq' := hw'
                    go_simp
                    go_at_call 49
                    refine (fitRoom n _ n1 n2).mono ?_
                    rintro e w6 ⟨he, hb6⟩
                    exact ⟨he, hq'.trans (hb6.mono hq'.size)⟩
                  clear hK K
                  (try simp only [Act.put, List.setIfInBounds_toArray, List.set_cons_zero, List.set_cons_succ])
                  refine WQ.want (by rfl) (fun K hK => ?_)
                  refine ⟨.bool true, fun w' hw' => ?_, hK _ ?_⟩
                  · have hq' := hw'
                    have z0 := kept_cell hw' e0; have z1 := kept_cell hw' e1; have z2 := kept_cell hw' e2; have z3 := kept_cell hw' e3; have z4 := kept_cell hw' e4; have z5 := kept_cell hw' e5; have z6 := kept_cell hw' e6; go_simp; omega
                  clear hK K
                  (try simp only [Act.put, List.setIfInBounds_toArray, List.set_cons_zero, List.set_cons_succ])
                  refine WQ.want (by rfl) (fun K hK => ?_)
                  refine ⟨.bool true, fun w' hw' => ?_, hK _ ?_⟩
                  · have hq' := hw'
                    go_simp
                  clear hK K
                  (try simp only [Act.put, List.setIfInBounds_toArray, List.set_cons_zero, List.set_cons_succ])
                  refine WQ.want (by rfl) (fun K hK => ?_)
                  refine ⟨.bool true, fun w' hw' => ?_, hK _ ?_⟩
                  · have hq' := hw'
                    go_simp
                  clear hK K
                  (try simp only [Act.put, List.setIfInBounds_toArray, List.set_cons_zero, List.set_cons_succ])
                  refine WQ.want (by rfl) (fun K hK => ?_)
                  refine ⟨.string (S s), fun w' hw' => ?_, hK _ ?_⟩
                  · have hq' := hw'
                    go_simp
                  clear hK K
                  (try simp only [Act.put, List.setIfInBounds_toArray, List.set_cons_zero, List.set_cons_succ])
                  refine WQ.want (by rfl) (fun K hK => ?_)
                  refine ⟨.int .i64 s.length, fun w' hw' => ?_, hK _ ?_⟩
                  · have hq' := hw'
                    go_simp
                  clear hK K
                  (try simp only [Act.put, List.setIfInBounds_toArray, List.set_cons_zero, List.set_cons_succ])
                  refine WQ.want (by rfl) (fun K hK => ?_)
                  refine ⟨.agg #[.int .i64 j, .int .i64 k, .int .i64 q], fun w' hw' => ?_, hK _ ?_⟩
                  · have hq' := hw'
                    have z0 := kept_cell hw' e0; have z1 := kept_cell hw' e1; have z2 := kept_cell hw' e2; have z3 := kept_cell hw' e3; have z4 := kept_cell hw' e4; have z5 := kept_cell hw' e5; have z6 := kept_cell hw' e6; go_simp
                  clear hK K
                  (try simp only [Act.put, List.setIfInBounds_toArray, List.set_cons_zero, List.set_cons_succ])
                  refine WQ.want (by rfl) (fun K hK => ?_)
                  refine ⟨.int .i64 (1 + 33 * (j : Int) + 51 * (k : Int)), fun w' hw' => ?_, hK _ ?_⟩
                  · have hq' := hw'
                    go_simp
                    go_at_call 50
                    refine (fitNodeBytes j k q _ (by omega) (by omega) (by omega) (by omega) (by omega) (by omega)).mono ?_
                    rintro e w6 ⟨he, hb6⟩
                    exact ⟨he, hq'.trans (hb6.mono hq'.size)⟩
                  clear hK K
                  (try simp only [Act.put, List.setIfInBounds_toArray, List.set_cons_zero, List.set_cons_succ])
                  refine WQ.want (by rfl) (fun K hK => ?_)
                  refine ⟨.bool true, fun w' hw' => ?_, hK _ ?_⟩
                  · have hq' := hw'
                    have z0 := kept_cell hw' e0; have z1 := kept_cell hw' e1; have z2 := kept_cell hw' e2; have z3 := kept_cell hw' e3; have z4 := kept_cell hw' e4; have z5 := kept_cell hw' e5; have z6 := kept_cell hw' e6; go_simp; omega
                  clear hK K
                  (try simp only [Act.put, List.setIfInBounds_toArray, List.set_cons_zero, List.set_cons_succ])
                  refine WQ.want (by rfl) (fun K hK => ?_)
                  refine ⟨.bool true, fun w' hw' => ?_, hK _ ?_⟩
                  · have hq' := hw'
                    go_simp
                  clear hK K
                  (try simp only [Act.put, List.setIfInBounds_toArray, List.set_cons_zero, List.set_cons_succ])
                  refine WQ.want (by rfl) (fun K hK => ?_)
                  refine ⟨.bool true, fun w' hw' => ?_, hK _ ?_⟩
                  · have hq' := hw'
                    go_simp
                  clear hK K
                  (try simp only [Act.put, List.setIfInBounds_toArray, List.set_cons_zero, List.set_cons_succ])
                  refine WQ.want (by rfl) (fun K hK => ?_)
                  refine ⟨.string (S t), fun w' hw' => ?_, hK _ ?_⟩
                  · have hq' := hw'
                    go_simp
                  clear hK K
                  (try simp only [Act.put, List.setIfInBounds_toArray, List.set_cons_zero, List.set_cons_succ])
                  refine WQ.want (by rfl) (fun K hK => ?_)
                  refine ⟨.int .i64 t.length, fun w' hw' => ?_, hK _ ?_⟩
                  · have hq' := hw'
                    go_simp
                  clear hK K
                  (try simp only [Act.put, List.setIfInBounds_toArray, List.set_cons_zero, List.set_cons_succ])
                  refine WQ.want (by rfl) (fun K hK => ?_)
                  refine ⟨.agg #[.int .i64 j, .int .i64 k, .int .i64 q], fun w' hw' => ?_, hK _ ?_⟩
                  · have hq' := hw'
                    have z0 := kept_cell hw' e0; have z1 := kept_cell hw' e1; have z2 := kept_cell hw' e2; have z3 := kept_cell hw' e3; have z4 := kept_cell hw' e4; have z5 := kept_cell hw' e5; have z6 := kept_cell hw' e6; go_simp
                  clear hK K
                  (try simp only [Act.put, List.setIfInBounds_toArray, List.set_cons_zero, List.set_cons_succ])
                  refine WQ.want (by rfl) (fun K hK => ?_)
                  refine ⟨.int .i64 (50 * (q : Int)), fun w' hw' => ?_, hK _ ?_⟩
                  · have hq' := hw'
                    go_simp
                    go_at_call 51
                    refine (fitLeafBytes j k q _ (by omega) (by omega) (by omega) (by omega) (by omega) (by omega)).mono ?_
                    rintro e w6 ⟨he, hb6⟩
                    exact ⟨he, hq'.trans (hb6.mono hq'.size)⟩
                  clear hK K
                  (try simp only [Act.put, List.setIfInBounds_toArray, List.set_cons_zero, List.set_cons_succ])
                  refine WQ.want (by rfl) (fun K hK => ?_)
                  refine ⟨.bool true, fun w' hw' => ?_, hK _ ?_⟩
                  · have hq' := hw'
                    have z0 := kept_cell hw' e0; have z1 := kept_cell hw' e1; have z2 := kept_cell hw' e2; have z3 := kept_cell hw' e3; have z4 := kept_cell hw' e4; have z5 := kept_cell hw' e5; have z6 := kept_cell hw' e6; go_simp; omega
                  clear hK K
                  (try simp only [Act.put, List.setIfInBounds_toArray, List.set_cons_zero, List.set_cons_succ])
                  refine WQ.want (by rfl) (fun K hK => ?_)
                  refine ⟨.bool true, fun w' hw' => ?_, hK _ ?_⟩
                  · have hq' := hw'
                    go_simp
                  clear hK K
                  (try simp only [Act.put, List.setIfInBounds_toArray, List.set_cons_zero, List.set_cons_succ])
                  refine WQ.want (by rfl) (fun K hK => ?_)
                  refine ⟨.bool true, fun w' hw' => ?_, hK _ ?_⟩
                  · have hq' := hw'
                    go_simp
                  clear hK K
                  (try simp only [Act.put, List.setIfInBounds_toArray, List.set_cons_zero, List.set_cons_succ])
                  refine WQ.want (by rfl) (fun K hK => ?_)
                  refine ⟨.agg #[.slice la q lx], fun w' hw' => ?_, hK _ ?_⟩
                  · have hq' := hw'
                    have z0 := kept_cell hw' e0; have z1 := kept_cell hw' e1; have z2 := kept_cell hw' e2; have z3 := kept_cell hw' e3; have z4 := kept_cell hw' e4; have z5 := kept_cell hw' e5; have z6 := kept_cell hw' e6; go_simp
                  clear hK K
                  (try simp only [Act.put, List.setIfInBounds_toArray, List.set_cons_zero, List.set_cons_succ])
                  refine WQ.want (by rfl) (fun K hK => ?_)
                  refine ⟨.int .i64 q, fun w' hw' => ?_, hK _ ?_⟩
                  · have hq' := hw'
                    go_simp
                    go_at_call 52
                    refine (lenE_next la q lx _).mono ?_
                    rintro e w6 ⟨he, hb6⟩
                    exact ⟨he, hq'.trans (hb6.mono hq'.size)⟩
                  clear hK K
                  (try simp only [Act.put, List.setIfInBounds_toArray, List.set_cons_zero, List.set_cons_succ])
                  refine WQ.want (by rfl) (fun K hK => ?_)
                  refine ⟨.pointer (some ⟨w1.heap.size, 2, none⟩), fun w' hw' => ?_, hK _ ?_⟩
                  · have hq' := hw'
                    go_simp
                  clear hK K
                  (try simp only [Act.put, List.setIfInBounds_toArray, List.set_cons_zero, List.set_cons_succ])
                  refine WQ.want (by rfl) (fun K hK => ?_)
                  refine ⟨.int .i64 q, fun w' hw' => ?_, hK _ ?_⟩
                  · have hq' := hw'
                    have z0 := kept_cell hw' e0; have z1 := kept_cell hw' e1; have z2 := kept_cell hw' e2; have z3 := kept_cell hw' e3; have z4 := kept_cell hw' e4; have z5 := kept_cell hw' e5; have z6 := kept_cell hw' e6; go_simp
                  clear hK K
                  (try simp only [Act.put, List.setIfInBounds_toArray, List.set_cons_zero, List.set_cons_succ])
                  refine WQ.want (by rfl) (fun K hK => ?_)
                  refine ⟨.bool true, fun w' hw' => ?_, hK _ ?_⟩
                  · have hq' := hw'
                    go_simp
                  clear hK K
                  (try simp only [Act.put, List.setIfInBounds_toArray, List.set_cons_zero, List.set_cons_succ])
                  refine WQ.want (by rfl) (fun K hK => ?_)
                  refine ⟨.bool true, fun w' hw' => ?_, hK _ ?_⟩
                  · have hq' := hw'
                    go_simp
                  clear hK K
                  (try simp only [Act.put, List.setIfInBounds_toArray, List.set_cons_zero, List.set_cons_succ])
                  refine WQ.want (by rfl) (fun K hK => ?_)
                  refine ⟨.bool true, fun w' hw' => ?_, hK _ ?_⟩
                  · have hq' := hw'
                    go_simp
                  clear hK K
                  (try simp only [Act.put, List.setIfInBounds_toArray, List.set_cons_zero, List.set_cons_succ])
                  refine WQ.want (by rfl) (fun K hK => ?_)
                  refine ⟨.agg #[.slice ba k bx], fun w' hw' => ?_, hK _ ?_⟩
                  · have hq' := hw'
                    have z0 := kept_cell hw' e0; have z1 := kept_cell hw' e1; have z2 := kept_cell hw' e2; have z3 := kept_cell hw' e3; have z4 := kept_cell hw' e4; have z5 := kept_cell hw' e5; have z6 := kept_cell hw' e6; go_simp
                  clear hK K
                  (try simp only [Act.put, List.setIfInBounds_toArray, List.set_cons_zero, List.set_cons_succ])
                  refine WQ.want (by rfl) (fun K hK => ?_)
                  refine ⟨.int .i64 k, fun w' hw' => ?_, hK _ ?_⟩
                  · have hq' := hw'
                    go_simp
                    go_at_call 26
                    refine (lenU_next ba k bx _).mono ?_
                    rintro e w6 ⟨he, hb6⟩
                    exact ⟨he, hq'.trans (hb6.mono hq'.size)⟩
                  clear hK K
                  (try simp only [Act.put, List.setIfInBounds_toArray, List.set_cons_zero, List.set_cons_succ])
                  refine WQ.want (by rfl) (fun K hK => ?_)
                  refine ⟨.pointer (some ⟨w1.heap.size, 1, none⟩), fun w' hw' => ?_, hK _ ?_⟩
                  · have hq' := hw'
                    go_simp
                  clear hK K
                  (try simp only [Act.put, List.setIfInBounds_toArray, List.set_cons_zero, List.set_cons_succ])
                  refine WQ.want (by rfl) (fun K hK => ?_)
                  refine ⟨.int .i64 k, fun w' hw' => ?_, hK _ ?_⟩
                  · have hq' := hw'
                    have z0 := kept_cell hw' e0; have z1 := kept_cell hw' e1; have z2 := kept_cell hw' e2; have z3 := kept_cell hw' e3; have z4 := kept_cell hw' e4; have z5 := kept_cell hw' e5; have z6 := kept_cell hw' e6; go_simp
                  clear hK K
                  (try simp only [Act.put, List.setIfInBounds_toArray, List.set_cons_zero, List.set_cons_succ])
                  refine WQ.want (by rfl) (fun K hK => ?_)
                  refine ⟨.bool true, fun w' hw' => ?_, hK _ ?_⟩
                  · have hq' := hw'
                    go_simp
                  clear hK K
                  (try simp only [Act.put, List.setIfInBounds_toArray, List.set_cons_zero, List.set_cons_succ])
                  refine WQ.want (by rfl) (fun K hK => ?_)
                  refine ⟨.bool true, fun w' hw' => ?_, hK _ ?_⟩
                  · have hq' := hw'
                    go_simp
                  clear hK K
                  (try simp only [Act.put, List.setIfInBounds_toArray, List.set_cons_zero, List.set_cons_succ])
                  refine WQ.want (by rfl) (fun K hK => ?_)
                  refine ⟨.bool true, fun w' hw' => ?_, hK _ ?_⟩
                  · have hq' := hw'
                    go_simp
                  clear hK K
                  (try simp only [Act.put, List.setIfInBounds_toArray, List.set_cons_zero, List.set_cons_succ])
                  refine WQ.done ?_
                  rintro w10 hX_w10
                  replace e0 := kept_cell hX_w10 e0
                  replace e1 := kept_cell hX_w10 e1
                  replace e2 := kept_cell hX_w10 e2
                  replace e3 := kept_cell hX_w10 e3
                  replace e4 := kept_cell hX_w10 e4
                  replace e5 := kept_cell hX_w10 e5
                  replace e6 := kept_cell hX_w10 e6
                  replace HE7 := Lib.hid (HE7.out.kept hX_w10 (Nat.le_refl _))
                  replace hL7 := hL7.trans (hX_w10.mono hL7.size)
                  clear hX_w10
                  go_wp2_with fail
                  go_ret
                  exact ⟨rfl, hL7⟩

end Go.Proofs.Ytlmlmkeomlehmaa
