/-
  The walk of the statement PickOrders.
-/
import Derived.Test.YtfnjomhefklbiaaPickO0
namespace Go.Proofs.Ytfnjomhefklbiaa
open Go.RowKit
attribute [local go_sem ↓] Go.wp_at_zero Go.wp_at_succ

set_option maxHeartbeats 1500000 in
theorem pickOrders_walk (v : Value) (x : List Int) (most : Int) (w : World) (hv : ArgInts w v x) :
    Calls Try.prog 6 #[v, .int .i64 most] w fun e w' => e = .returned (.bool true) ∧ Below w.heap.size w w' := by
  have hmax := fun ts t a b w => run_jmax (P := Try.prog) ts t a b w
  have hmin := fun ts t a b w => run_jmin (P := Try.prog) ts t a b w
  obtain ⟨i0, hi, hz0, hz1, hz2⟩ := info_parts int_info
  obtain ⟨ao, c, rfl, hx, hxc, hc63, hn0⟩ := hv.form
  obtain ⟨m, hm, hmx, hm60⟩ : ∃ m : Nat, jmin (x.length : Int) 60 = (m : Int) ∧ m ≤ x.length ∧ m ≤ 60 := by
    unfold jmin
    split
    · exact ⟨60, rfl, by omega, by omega⟩
    · exact ⟨x.length, rfl, by omega, by omega⟩
  by_cases hmz : m = 0
  · obtain rfl : x = [] := by
      refine List.eq_nil_of_length_eq_zero ?_
      subst hmz
      unfold jmin at hm
      split at hm <;> omega
    cases ao with
    | none =>
      obtain rfl := hn0 rfl
      exact pickOrders_none most w
    | some ad => exact pickOrders_zero ad c most w
  · cases ao with
    | none => exact absurd (hn0 rfl) (by omega)
    | some ad =>
      go_enter Try.func6, Try.ntmps6
      have hm0 : (0 : Int) ≤ (m : Int) := Int.natCast_nonneg _
      have hmc : (m : Int) ≤ (c : Int) := by omega
      go_wp2_with (at_builtin; refine wpList_append_own_at _ rfl _ _ 27 rfl w.heap.size 3 i0 (.int .i64 0) 1 8 Try.underlying27 hi hz0 hz1 hz2 rfl (by decide) (.slice none 0 0) 0 [] rfl (World.ownsRow_nil _ _ _ _) ad m c (intsV (x.take m)) rfl (by rw [intsV, List.length_map, List.length_take]; omega) (ints_cells hx m) (intsV_oneCell _) (by unfold maxLen; omega) (by omega) (Nat.le_refl _) ?_; intro v1 w1 hown hgrow hnil hat; have hB1 : Below w.heap.size w w1 := ⟨hgrow.os, hgrow.tape, hgrow.output, hgrow.size, fun k hk => hgrow.block k hk (by simp [Value.ownBlock])⟩; rw [Nat.zero_add, List.nil_append] at hown; have hO1 : Out w.heap.size v1 (x.take m) w1 := Out.of_own (by rw [List.length_take, Nat.min_eq_left hmx]; exact hown); have hLl : (x.take m).length = m := (by rw [List.length_take, Nat.min_eq_left hmx]); have hLx := Lib.hid (show x.take m = x.take m from rfl); clear hown hat hnil hgrow; generalize hL : x.take m = L at hO1 hLl; have hpre := Lib.hid hL; clear hL hLx; subst hLl; obtain ⟨ao1, c1, rfl, hI1⟩ := hO1.cells)
      obtain ⟨k, hkL, hT⟩ : ∃ k : Nat, k < L.length ∧ ∃ T : List Int, T.length = L.length ∧ (∀ n, topL L n = T.take n) ∧ ∃ r, T = (k : Int) :: r := by
        obtain ⟨k, hk, r, hr⟩ := topHead L (by omega)
        exact ⟨k, hk, _, by rw [List.length_map, ordP_length], topL_eq L, r, hr⟩
      obtain ⟨T, hTl, hTn, hTr⟩ := hT
      have hTe : topL L L.length = T := by rw [hTn, ← hTl, List.take_length]
      obtain ⟨p, hp, hpL, hpm⟩ : ∃ p : Nat, jmin (jmax 0 most) (L.length : Int) = (p : Int) ∧ p ≤ L.length ∧ Hid (p = min most.toNat L.length) := ⟨min most.toNat L.length, by unfold jmin jmax; split <;> split <;> omega, by omega, Lib.hid rfl⟩
      have hs1 := hB1.size
      refine (thread (P := Try.prog) (R := fun e w' => ∃ v, e = .returned v ∧ Out w1.heap.size v (topL L L.length) w') (by refine (ref_order ao1 c1 L w1 hI1 (by omega)).mono ?_; rintro e w' ⟨v, rfl, h1, h2⟩; exact ⟨⟨v, rfl, h1⟩, h2⟩) w.heap.size w hB1 hs1).mono ?_
      rintro e w2 ⟨⟨v2, rfl, hO2⟩, hB2, hk2, -, hs2, hz2⟩
      rw [hTe] at hO2
      obtain ⟨ao2, c2, rfl, hI2, hTc⟩ := hO2.cells2
      rw [hTl] at hTc
      have hJ2 := hI1.keptAt hs2 (fun b o h => hk2 b o h)
      rw [hTl]
      go_wp2_with fail
      refine (thread (fullest_all ao1 c1 L w2 hJ2 (by omega) k (by rw [hTn]; obtain ⟨r, hr⟩ := hTr; rw [hr]; rfl) hkL) w.heap.size w hB2 hz2).mono ?_
      rintro e w3 ⟨rfl, hB3, hk3, -, hs3, hz3⟩
      have hJ3 := hJ2.keptAt hs3 (fun b o h => hk3 b o h)
      have hI3 := hI2.keptAt hs3 (fun b o h => hk3 b o h)
      obtain ⟨b1, o1, e1, hb1, hc1⟩ := hJ3.at (by omega)
      obtain ⟨b2, o2, e2, hb2, hc2⟩ := hI3.at (by omega)
      subst e1 e2
      have d1 := hc1 k hkL 0 _ rfl
      have d2 := hc2 0 (by omega) 0 _ rfl
      have hT0 : T[0]'(by omega) = (k : Int) := by obtain ⟨r, hr⟩ := hTr; subst hr; rfl
      rw [hT0] at d2
      simp only [Nat.mul_one, Nat.add_zero] at d1 d2
      have hk0 : (0 : Int) ≤ (k : Int) := Int.natCast_nonneg _
      have hk1 : (k : Int) < (L.length : Int) := by omega
      have hL0 : (0 : Int) < (L.length : Int) := by omega
      clear hc1 hc2 hk2 hk3
      have hTm : topL L most.toNat = T.take p := by
        have h := hpm.out
        rw [hTn, List.take_eq_take_iff]; omega
      have hTpl : (T.take p).length = p := by rw [List.length_take]; omega
      have hp0 : (0 : Int) ≤ (p : Int) := Int.natCast_nonneg _
      have hpc : (p : Int) ≤ (c2 : Int) := by omega
      have hx4 : IntsAt w3 (some ad) L := by
        have h := (hx.kept hB3 (Nat.le_refl _)).cut L.length
        rw [hpre.out] at h
        exact h
      clear hTn hpm
      by_cases hf : L[k] < 1
      · go_wp2_with fail
        go_region_held3 (fun w' => w3.heap.size ≤ w'.heap.size)
        (first | assumption | go_keep | go_grown)
        (first
          | (go_at_call 22; refine (thread (wakes19 _) w3.heap.size w3 (by go_grown) (by go_grown)).mono ?_; rintro e wa ⟨rfl, hBa, -, -, -, hza⟩)
          | (go_at_call 24; refine (thread (order_cells _ c1 L T L.length _ (hJ3.kept (by go_grown) (Nat.le_refl _)) (by omega) hTe hTl) w3.heap.size w3 (by go_grown) (by go_grown)).mono ?_; rintro e wb ⟨⟨ao4, c4, rfl, hI4, hc4⟩, hBb, -, -, -, hzb⟩)
          | (go_at_call 25; refine (thread (top_cells _ c1 L (T.take p) most p _ (hJ3.kept (by go_grown) (Nat.le_refl _)) (by omega) hTm hTpl) w3.heap.size w3 (by go_grown) (by go_grown)).mono ?_; rintro e wc ⟨⟨ao5, c5, rfl, hI5, hc5⟩, hBc, -, -, -, hzc⟩)
          | (go_at_call 23; with_reducible show Calls _ _ #[_, .slice (some ad) _ _] _ _; refine (thread (same_true _ _ L.length c1 c L _ rfl (hJ3.kept (by go_grown) (Nat.le_refl _)) (hx4.kept (by go_grown) (Nat.le_refl _)) (by omega)) w3.heap.size w3 (by go_grown) (by go_grown)).mono ?_; rintro e wd ⟨rfl, hBd, -, -, -, hzd⟩)
          | (go_at_call 23; with_reducible show Calls _ _ #[.slice ao5 _ _, _] _ _; refine (thread (same_true _ _ p c5 c2 (T.take p) _ hTpl (hI5.kept (by go_grown) (Nat.le_refl _)) ((hI3.cut p).kept (by go_grown) (Nat.le_refl _)) (by omega)) w3.heap.size w3 (by go_grown) (by go_grown)).mono ?_; rintro e we ⟨rfl, hBe, -, -, -, hze⟩)
          | (go_at_call 23; with_reducible show Calls _ _ #[.slice ao4 _ _, _] _ _; refine (thread (same_true _ _ L.length c4 c2 T _ hTl (hI4.kept (by go_grown) (Nat.le_refl _)) (hI3.kept (by go_grown) (Nat.le_refl _)) (by omega)) w3.heap.size w3 (by go_grown) (by go_grown)).mono ?_; rintro e wf ⟨rfl, hBf, -, -, -, hzf⟩))
        go_wp2_with fail
        go_ret
        exact ⟨rfl, hB3.trans (hBd.mono hz3)⟩
      · go_wp2_with fail
        go_region_held3 (fun w' => w3.heap.size ≤ w'.heap.size)
        (first | assumption | go_keep | go_grown)
        (first
          | (go_at_call 22; refine (thread (wakes19 _) w3.heap.size w3 (by go_grown) (by go_grown)).mono ?_; rintro e wa ⟨rfl, hBa, -, -, -, hza⟩)
          | (go_at_call 24; refine (thread (order_cells _ c1 L T L.length _ (hJ3.kept (by go_grown) (Nat.le_refl _)) (by omega) hTe hTl) w3.heap.size w3 (by go_grown) (by go_grown)).mono ?_; rintro e wb ⟨⟨ao4, c4, rfl, hI4, hc4⟩, hBb, -, -, -, hzb⟩)
          | (go_at_call 25; refine (thread (top_cells _ c1 L (T.take p) most p _ (hJ3.kept (by go_grown) (Nat.le_refl _)) (by omega) hTm hTpl) w3.heap.size w3 (by go_grown) (by go_grown)).mono ?_; rintro e wc ⟨⟨ao5, c5, rfl, hI5, hc5⟩, hBc, -, -, -, hzc⟩)
          | (go_at_call 23; with_reducible show Calls _ _ #[_, .slice (some ad) _ _] _ _; refine (thread (same_true _ _ L.length c1 c L _ rfl (hJ3.kept (by go_grown) (Nat.le_refl _)) (hx4.kept (by go_grown) (Nat.le_refl _)) (by omega)) w3.heap.size w3 (by go_grown) (by go_grown)).mono ?_; rintro e wd ⟨rfl, hBd, -, -, -, hzd⟩)
          | (go_at_call 23; with_reducible show Calls _ _ #[.slice ao5 _ _, _] _ _; refine (thread (same_true _ _ p c5 c2 (T.take p) _ hTpl (hI5.kept (by go_grown) (Nat.le_refl _)) ((hI3.cut p).kept (by go_grown) (Nat.le_refl _)) (by omega)) w3.heap.size w3 (by go_grown) (by go_grown)).mono ?_; rintro e we ⟨rfl, hBe, -, -, -, hze⟩)
          | (go_at_call 23; with_reducible show Calls _ _ #[.slice ao4 _ _, _] _ _; refine (thread (same_true _ _ L.length c4 c2 T _ hTl (hI4.kept (by go_grown) (Nat.le_refl _)) (hI3.kept (by go_grown) (Nat.le_refl _)) (by omega)) w3.heap.size w3 (by go_grown) (by go_grown)).mono ?_; rintro e wf ⟨rfl, hBf, -, -, -, hzf⟩))
        go_wp2_with fail
        go_ret
        exact ⟨rfl, hB3.trans (hBd.mono hz3)⟩
end Go.Proofs.Ytfnjomhefklbiaa
