/-
  The walk of the statement PickGrows.
-/
import Derived.Test.YtfnjomhefklbiaaPickG0
import Derived.Test.YtfnjomhefklbiaaPickM
namespace Go.Proofs.Ytfnjomhefklbiaa
open Go.RowKit
attribute [local go_sem ↓] Go.wp_at_zero Go.wp_at_succ

theorem ordL_top (C : List Int) : topL C C.length = ordL C := by rw [topL_eq, List.take_of_length_le (by rw [ordL_length]; exact Nat.le_refl _)]

set_option maxHeartbeats 3000000 in
theorem pickGrows_walk (v : Value) (x : List Int) (at' y : Int) (w : World) (hv : ArgBytes w v x) (ha0 : 0 ≤ at') (ha1 : at' < 256) (hy0 : 0 ≤ y) (hy1 : y < 256) :
    Calls Try.prog 8 #[v, .int .u8 at', .int .u8 y] w fun e w' => e = .returned (.bool true) ∧ Below w.heap.size w w' := by
  have hmin := fun ts t a b w => run_jmin (P := Try.prog) ts t a b w
  obtain ⟨i0, hi, hz0, hz1, hz2⟩ := info_parts int_info
  obtain ⟨ao, c, rfl, hx, hxc, hc63, hn0⟩ := hv.form
  have hrng := hv.rng
  obtain ⟨m, hm, hmx, hm40⟩ : ∃ m : Nat, jmin (x.length : Int) 40 = (m : Int) ∧ m ≤ x.length ∧ m ≤ 40 := by
    obtain ⟨m, h1, h2⟩ := arg_min x.length 40
    exact ⟨m, h1, by omega, by omega⟩
  have hcut := fun w => cut_bytes ao x.length c m (by omega) w
  clear hv hn0
  go_enter Try.func8, Try.ntmps8
  go_wp2_with fail
  go_loopw [7, 21] (fun v i wr => ∃ k : Nat, i = .int .i64 k ∧ k ≤ m ∧ Counts w (x.take k) v wr) (fun _ i _ => m - (intOf i).toNat)
  case atStart => exact ⟨0, rfl, Nat.zero_le _, Counts.start w⟩
  case round =>
    obtain ⟨k, rfl, hk, hC⟩ := hrel
    have hlen : (x.take k).length = k := by rw [List.length_take]; omega
    by_cases hkm : k < m
    · obtain ⟨b, off, rfl, hb, hc⟩ := hx.at (by omega)
      have hck := hC.below.cell (p := ⟨b, off + k * 1 + 0, none⟩) hb
      rw [hc k (by omega) 0 _ rfl, Nat.mul_one, Nat.add_zero] at hck
      have hk1 : (k : Int) < (m : Int) := by omega
      have hk0 : (0 : Int) ≤ (k : Int) := Int.natCast_nonneg _
      have hxk := hrng x[k] (List.getElem_mem _)
      obtain ⟨hx0, hx1⟩ := hxk
      have hsn := Lib.hid (show x.take (k + 1) = x.take k ++ [x[k]] from List.take_succ_eq_append_getElem (by omega))
      generalize x[k] = z at *
      go_wp2_with (at_builtin; refine wpList_append_own_at _ rfl _ _ 27 rfl w.heap.size 3 i0 (.int .i64 0) 1 8 Try.underlying27 hi hz0 hz1 hz2 rfl (by decide) _ (x.take k).length _ rfl (hC.out.own.alloc _) ⟨wr.heap.size, 0, none⟩ 1 1 [.int .i64 z] rfl rfl (cell_one_new _ _ _) (by intro u hu; simp at hu; subst hu; rfl) (by rw [hlen]; unfold maxLen; omega) (by rw [hlen]; omega) (by have := hC.below.size; simp; omega) ?_; intro v' w1 hown' hgrow hnil hat; have hM := hC.more z hown' hgrow; rcases hown'.slice (by omega) with ⟨g', c', rfl⟩; rw [hlen] at hM)
      go_roundw
      case rel => exact ⟨k + 1, by go_num, by omega, by rw [hsn.out]; exact hM⟩
      case measure => first | (simp [intOf]; done) | (simp [intOf]; omega)
    · obtain rfl : k = m := by omega
      generalize hL : x.take k = C at *
      have hCr : ∀ y ∈ C, 0 ≤ y ∧ y < 256 := fun y hy => hrng y (by rw [← hL] at hy; exact List.mem_of_mem_take hy)
      subst hlen
      clear hL hx hrng hcut hmx hm
      have hB1 := hC.below
      have hO1 := hC.out
      obtain ⟨ao1, c1, rfl, hI1, hc1⟩ := hC.out.cells2
      clear hC
      go_wp2_with fail
      refine (order_cells ao1 c1 C (ordL C) C.length wr hI1 (by omega) (ordL_top C) (ordL_length C)).mono ?_
      rintro e w2 ⟨⟨ao2, c2, rfl, hI2, hc2⟩, hb2⟩
      have hB2 := hB1.trans (hb2.mono hB1.size)
      have hO2 := hO1.past hb2
      clear hI1 hO1 hB1 hb2
      go_wp2_with (go_at_call 22; refine (wakes19 w2).mono ?_; rintro e w3 ⟨rfl, hb3⟩; have hB3 := hB2.trans (hb3.mono hB2.size); have hO3 := hO2.past hb3; have hI3 := hI2.kept hb3 (Nat.le_refl _); clear hB2 hO2 hI2 hb3)
      have hJ3 : IntsAt w3 ao1 C := by
        obtain ⟨ao', c', e, h, _⟩ := hO3.form
        simp only [Value.slice.injEq] at e
        rw [e.1]; exact h
      go_loopw [44] (fun i wi => ∃ k : Nat, i = .int .i64 k ∧ k ≤ C.length ∧ Below w3.heap.size w3 wi) (fun i _ => C.length - (intOf i).toNat)
      case atStart => exact ⟨0, rfl, Nat.zero_le _, Below.refl _ _⟩
      case round =>
        obtain ⟨k, rfl, hk, hB⟩ := hrel
        have hk0 : (0 : Int) ≤ (k : Int) := Int.natCast_nonneg _
        by_cases hkl : k < C.length
        · have hkl' : (k : Int) < (C.length : Int) := by omega
          have hkc : (k : Int) ≤ (c2 : Int) := by omega
          have hT : topL C ((k : Nat) : Int).toNat = (ordL C).take k := by rw [Int.toNat_natCast, topL_eq]
          have hTl : ((ordL C).take k).length = k := by rw [List.length_take, ordL_length]; omega
          have hT' := Lib.hid hT
          have hTl' := Lib.hid hTl
          clear hT hTl
          have hJ := hJ3.kept hB (Nat.le_refl _)
          have hI := (hI3.kept hB (Nat.le_refl _)).cut k
          go_wp2_with fail
          go_region_held3 (fun w' => wr.heap.size ≤ w'.heap.size)
          (first | assumption | go_keep | go_grown)
          (first
            | (go_at_call 25; refine (thread (top_cells _ c1 C ((ordL C).take k) k k _ (hJ.kept (by go_grown) (Nat.le_refl _)) (by omega) hT'.out hTl'.out) wr.heap.size wr (by go_grown) (by go_grown)).mono ?_; rintro e wc ⟨⟨ao5, c5, rfl, hI5, hc5⟩, hBc, -, -, -, hzc⟩)
            | (go_at_call 23; refine (thread (same_true _ _ k c5 c2 ((ordL C).take k) _ hTl'.out (hI5.kept (by go_grown) (Nat.le_refl _)) (hI.kept (by go_grown) (Nat.le_refl _)) (by omega)) wr.heap.size wr (by go_grown) (by go_grown)).mono ?_; rintro e wd ⟨rfl, hBd, -, -, -, hzd⟩))
          go_wp2_with fail
          go_roundw
          case rel => exact ⟨k + 1, by go_num, by omega, hB.trans (hBd.mono hB.size)⟩
          case measure => first | (simp [intOf]; done) | (simp [intOf]; omega)
        · obtain rfl : k = C.length := by omega
          have hBw := hB3.trans (hB.mono hB3.size)
          by_cases hC0 : C.length = 0
          · have hz : ((C.length : Int) == 0) = true := by simpa using hC0
            clear hC0
            go_wp2_with fail
            go_ret
            exact ⟨rfl, hBw⟩
          · have hz : ((C.length : Int) == 0) = false := by simpa using hC0
            have hpos : (1 : Int) ≤ (C.length : Int) := by omega
            have hO := hO3.past hB
            obtain ⟨g, c1', e, hg0, hg1, hgc, hgf⟩ := hO.row (by omega)
            simp only [Value.slice.injEq, true_and] at e
            obtain ⟨rfl, rfl⟩ := e
            have hI := hI3.kept hB (Nat.le_refl _)
            obtain ⟨q, hqe, hq⟩ : ∃ q : Nat, at' % (C.length : Int) = (q : Int) ∧ q < C.length := by
              have h1 := Int.emod_nonneg at' (show (C.length : Int) ≠ 0 by omega)
              have h2 := Int.emod_lt_of_pos at' (show (0 : Int) < (C.length : Int) by omega)
              exact ⟨(at' % (C.length : Int)).toNat, by omega, by omega⟩
            have hgq := hgc q hq
            have hgf' := hgf q
            have hyq := hCr _ (List.getElem_mem hq)
            obtain ⟨hyq0, hyq1⟩ := hyq
            have hq0 : (0 : Int) ≤ (q : Int) := Int.natCast_nonneg _
            have hq1 : (q : Int) < (C.length : Int) := by omega
            have hmem := Lib.hid (ordL_mem hq)
            have hgrows := Lib.hid (ordL_grows hq hy0)
            have hst := (hO.store rfl q hq (C[q] + y)).past ((Below.refl _ _).alloc (Nat.le_refl _) (.cells #[.int .i64 q] 3))
            have hbox : (wr.alloc (.cells #[.int .i64 (q : Int)] 3)).cell? ⟨wr.heap.size, 0, none⟩ = some (.int .i64 q) := by simp
            clear hgc hgf hO3 hI3 hJ3 hB3 hB hC0 hO
            generalize hyz : C[q] = z at *
            have hyz' := Lib.hid hyz
            clear hyz
            have hpl := place_any ao2 c2 wr.heap.size (ordL C) q (wr.alloc (.cells #[.int .i64 q] 3)) (hI.kept ((Below.refl _ _).alloc (Nat.le_refl _) _) (Nat.le_refl _)) (by rw [ordL_length]; omega) hbox hmem.out
            rw [ordL_length] at hpl
            have hset : ((C.set q (z + y))).length = C.length := List.length_set ..
            generalize hD : C.set q (z + y) = D at *
            have hmemD : Hid ((q : Int) ∈ ordL D) := Lib.hid (ordL_mem (by omega))
            have hDr := Lib.hid hset
            clear hset
            generalize hp0 : (ordL C).idxOf (q : Int) = p0 at *
            go_wp2_with fail
            refine hpl.mono ?_
            rintro e w4 ⟨rfl, rfl⟩
            clear hpl hp0
            have hbox2 : ((wr.setCell ⟨g, q, none⟩ (.int .i64 (z + y))).alloc (.cells #[.int .i64 q] 3)).cell? ⟨wr.heap.size, 0, none⟩ = some (.int .i64 q) := by
              have h := cell_new (wr.setCell ⟨g, q, none⟩ (.int .i64 (z + y))) #[.int .i64 (q : Int)] 3 (0, 0) 0
              rw [World.size_setCell] at h
              exact h
            have hBw2 : Below w.heap.size w ((wr.setCell ⟨g, q, none⟩ (.int .i64 (z + y))).alloc (.cells #[.int .i64 q] 3)) := (hBw.setCell (by show w.heap.size ≤ g; exact hg0) _).alloc (by rw [World.size_setCell]; exact hBw.size) _
            have hlt2 : wr.heap.size < ((wr.setCell ⟨g, q, none⟩ (.int .i64 (z + y))).alloc (.cells #[.int .i64 q] 3)).heap.size := by simp
            obtain ⟨ao6, c6, e6, hI6, -⟩ := hst.form
            simp only [Value.slice.injEq] at e6
            obtain ⟨rfl, -, -⟩ := e6
            have hord := order_cells _ c1 D (ordL D) C.length _ hI6 (by rw [hDr.out]; omega) (ordL_top D) (by rw [ordL_length, hDr.out])
            rw [hDr.out] at hord
            clear hst hI6 hI
            go_wp2_with fail
            refine hord.mono ?_
            rintro e w5 ⟨⟨ao5, c5, rfl, hI5, hc5⟩, hb5⟩
            clear hord
            have hbox5 := (hb5.cell (p := ⟨wr.heap.size, 0, none⟩) hlt2).trans hbox2
            have hB5 := hBw2.trans (hb5.mono hBw2.size)
            clear hb5 hbox2 hBw2 hlt2 hbox
            have hpl := place_any ao5 c5 wr.heap.size (ordL D) q w5 hI5 (by rw [ordL_length, hDr.out]; omega) hbox5 hmemD.out
            rw [ordL_length, hDr.out] at hpl
            have hle := hgrows.out
            generalize hp1 : (ordL D).idxOf (q : Int) = p1 at *
            go_wp2_with fail
            refine hpl.mono ?_
            rintro e w6 ⟨rfl, rfl⟩
            clear hpl hp1
            go_wp2_with fail
            go_ret
            exact ⟨rfl, hB5⟩

end Go.Proofs.Ytfnjomhefklbiaa
