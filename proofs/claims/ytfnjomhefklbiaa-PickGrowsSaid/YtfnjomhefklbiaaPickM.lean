/-
  The walk of the statement PickMost.
-/
import Derived.Test.YtfnjomhefklbiaaPickM0
namespace Go.Proofs.Ytfnjomhefklbiaa
open Go.RowKit
attribute [local go_sem ↓] Go.wp_at_zero Go.wp_at_succ

/-- Is a key among them? -/
def inL (l : List Int) : Lit → Bool
  | .int .i64 x => decide (x ∈ l)
  | _ => false
theorem inL_nil : (fun _ : Lit => false) = inL [] := by
  funext l
  unfold inL
  split <;> simp
theorem inL_new (l : List Int) (x : Int) : inL (l ++ [x]) (.int .i64 x) = true := by simp [inL]
theorem inL_old (l : List Int) (x : Int) (y : Lit) (h : y ≠ .int .i64 x) : inL (l ++ [x]) y = inL l y := by
  unfold inL
  split
  · rename_i z
    have : z ≠ x := fun e => h (by rw [e])
    simp [this]
  · rfl
abbrev Keys (w : World) (b n : Nat) (l : List Int) : Prop := SetAt Try.prog 3 4 w b n (inL l)
theorem Keys.start (w : World) : Keys (w.alloc (.map #[] 0)) w.heap.size 0 [] := by
  have h := SetAt.made Try.prog 3 4 w
  rw [inL_nil] at h
  exact h
theorem zero_bool (w : World) : (zeroValue 4).run Try.prog w = .ok (.bool false) w := by kernel_rfl
theorem int_key {x : Int} (h0 : -9223372036854775808 ≤ x) (h1 : x ≤ 9223372036854775807) : keyOf Try.prog 3 (.int .i64 x) = some (.int .i64 x) := Maps.keyOf_int_mk Try.underlying3 (WalkArith.wf_i64 ⟨h0, h1⟩)
theorem Keys.look {w : World} {b n : Nat} {l : List Int} (h : Keys w b n l) (x : Int) (h0 : -9223372036854775808 ≤ x) (h1 : x ≤ 9223372036854775807) : (Instr.lookup 52 (.map (some b)) (.int .i64 x) false).run Try.prog w = .ok (.bool (decide (x ∈ l))) w :=
  SetAt.look h (Maps.int_keyed Try.underlying3) Try.underlying52 Try.underlying4 (zero_bool w) (int_key h0 h1) trivial

theorem mul_bound {y : Int} {n : Nat} (h : 0 ≤ y ∧ y < 256) (hn : n ≤ 80) : 0 ≤ y * (n : Int) ∧ y * (n : Int) ≤ 255 * 80 := by
  refine ⟨Int.mul_nonneg h.1 (by omega), Int.le_trans (Int.mul_le_mul_of_nonneg_right (show y ≤ 255 by omega) (by omega)) ?_⟩
  omega
theorem jmin_len {most : Int} {n p : Nat} (h0 : 0 ≤ most) (h : p = min most.toNat n) : jmin most (n : Int) = (p : Int) := by
  unfold jmin; split <;> omega
theorem arg_min (n y : Nat) : ∃ m : Nat, jmin (n : Int) (y : Int) = (m : Int) ∧ m = min n y := ⟨min n y, by unfold jmin; split <;> omega, rfl⟩

set_option maxHeartbeats 3000000 in
theorem pickMost_walk (v : Value) (x : List Int) (most : Int) (w : World) (hv : ArgBytes w v x) (hm0 : 0 ≤ most) (hm1 : most < 256) :
    Calls Try.prog 7 #[v, .int .u8 most] w fun e w' => e = .returned (.bool true) ∧ Below w.heap.size w w' := by
  have hmin := fun ts t a b w => run_jmin (P := Try.prog) ts t a b w
  have hmm := @run_makeMap Try.prog
  obtain ⟨i0, hi, hz0, hz1, hz2⟩ := info_parts int_info
  obtain ⟨ao, c, rfl, hx, hxc, hc63, hn0⟩ := hv.form
  have hrng := hv.rng
  obtain ⟨m, hm, hmx, hm80⟩ : ∃ m : Nat, jmin (x.length : Int) 80 = (m : Int) ∧ m ≤ x.length ∧ m ≤ 80 := by
    obtain ⟨m, h1, h2⟩ := arg_min x.length 80
    exact ⟨m, h1, by omega, by omega⟩
  have hcut := fun w => cut_bytes ao x.length c m (by omega) w
  clear hv hn0
  go_enter Try.func7, Try.ntmps7
  go_wp2_with fail
  go_loopw [5, 6, 25] (fun v s i wr => ∃ k : Nat, i = .int .i64 k ∧ k ≤ m ∧ s = .int .i64 (sumL (x.take k)) ∧ Counts w (x.take k) v wr) (fun _ _ i _ => m - (intOf i).toNat)
  case atStart => exact ⟨0, rfl, Nat.zero_le _, rfl, Counts.start w⟩
  case round =>
    obtain ⟨k, rfl, hk, rfl, hC⟩ := hrel
    have hlen : (x.take k).length = k := by rw [List.length_take]; omega
    by_cases hkm : k < m
    · obtain ⟨b, off, rfl, hb, hc⟩ := hx.at (by omega)
      have hck := hC.below.cell (p := ⟨b, off + k * 1 + 0, none⟩) hb
      rw [hc k (by omega) 0 _ rfl, Nat.mul_one, Nat.add_zero] at hck
      have hk1 : (k : Int) < (m : Int) := by omega
      have hk0 : (0 : Int) ≤ (k : Int) := Int.natCast_nonneg _
      have hxk := hrng x[k] (List.getElem_mem _)
      obtain ⟨hx0, hx1⟩ := hxk
      have hsn := Lib.hid (show x.take (k + 1) = x.take k ++ [x[k]] from List.take_succ_eq_append_getElem (by omega))
      have hss := sumL_snoc (x.take k) x[k]
      have hsb := sum_bound (x.take k) (fun y hy => hrng y (List.mem_of_mem_take hy))
      rw [hlen] at hsb
      have hss' := Lib.hid hss
      clear hss
      generalize x[k] = y at *
      go_wp2_with (at_builtin; refine wpList_append_own_at _ rfl _ _ 27 rfl w.heap.size 3 i0 (.int .i64 0) 1 8 Try.underlying27 hi hz0 hz1 hz2 rfl (by decide) _ (x.take k).length _ rfl (hC.out.own.alloc _) ⟨wr.heap.size, 0, none⟩ 1 1 [.int .i64 y] rfl rfl (cell_one_new _ _ _) (by intro u hu; simp at hu; subst hu; rfl) (by rw [hlen]; unfold maxLen; omega) (by rw [hlen]; omega) (by have := hC.below.size; simp; omega) ?_; intro v' w1 hown' hgrow hnil hat; have hM := hC.more y hown' hgrow; rcases hown'.slice (by omega) with ⟨g', c', rfl⟩; rw [hlen] at hM)
      go_roundw
      case rel => exact ⟨k + 1, by go_num, by omega, by rw [hsn.out, hss'.out], by rw [hsn.out]; exact hM⟩
      case measure => first | (simp [intOf]; done) | (simp [intOf]; omega)
    · obtain rfl : k = m := by omega
      generalize hL : x.take k = C at *
      have hCr : ∀ y ∈ C, 0 ≤ y ∧ y < 256 := fun y hy => hrng y (by rw [← hL] at hy; exact List.mem_of_mem_take hy)
      subst hlen
      clear hL hx hrng hcut hmx hm
      have hB1 := hC.below
      obtain ⟨ao1, c1, rfl, hI1, hc1⟩ := hC.out.cells2
      clear hC
      obtain ⟨T, hT⟩ : ∃ T, topL C most.toNat = T := ⟨_, rfl⟩
      have hTl := topL_len C most.toNat
      rw [hT] at hTl
      have hTl' := Lib.hid hTl
      have hTb : T.length ≤ C.length := by omega
      go_wp2_with fail
      refine (thread (top_cells ao1 c1 C T most T.length wr hI1 (by omega) hT rfl) w.heap.size w hB1 hB1.size).mono ?_
      rintro e w2 ⟨⟨ao2, c2, rfl, hI2, hc2⟩, hB2, hk2, -, hs2, hz2⟩
      have hJ2 := hI1.keptAt hs2 (fun b o h => hk2 b o h)
      clear hk2 hI1 hs2
      have hT0 : ∀ t ∈ T, ∃ (q : Nat) (_ : q < C.length), t = q := fun t ht => by
        rw [← hT] at ht
        obtain ⟨q, hq, e, _⟩ := topL_is ht
        exact ⟨q, hq, e⟩
      have hTn : T.Nodup := by rw [← hT]; exact topL_nodup _ _
      have hTx : ∀ (i q : Nat) (hi : i < C.length) (hq : q < C.length), (q : Int) ∈ T → (i : Int) ∉ T → C[i] ≤ C[q] ∧ (C[i] = C[q] → q ≤ i) := fun i q hi hq h1 h2 => by
        rw [← hT] at h1 h2
        exact topL_not hi hq h1 h2
      have hT' := Lib.hid hT
      clear hT
      go_wp2_with fail
      have hK0 := Keys.start w2
      go_loopw [46] (fun i wr => ∃ k n : Nat, i = .int .i64 k ∧ k ≤ T.length ∧ n ≤ k ∧ Keys wr w2.heap.size n (T.take k) ∧ Below w2.heap.size w2 wr) (fun i _ => T.length - (intOf i).toNat)
      case atStart => exact ⟨0, 0, rfl, Nat.zero_le _, Nat.le_refl _, hK0, (Below.refl _ _).alloc (Nat.le_refl _) _⟩
      case round =>
        obtain ⟨k, n, rfl, hk, hn, hK, hB⟩ := hrel
        have hk0 : (0 : Int) ≤ (k : Int) := Int.natCast_nonneg _
        by_cases hkl : k < T.length
        · have hkl' : (k : Int) < (T.length : Int) := by omega
          obtain ⟨q, hq, hTq⟩ := hT0 _ (List.getElem_mem hkl)
          have hnew : T[k] ∉ T.take k := fun h => by
            obtain ⟨j, hj, e⟩ := List.getElem_of_mem h
            rw [List.length_take] at hj
            rw [List.getElem_take] at e
            have := (List.nodup_iff_pairwise_ne.1 hTn)
            have := List.pairwise_iff_getElem.1 hTn j k (by omega) hkl (by omega)
            exact this e
          have hsn := Lib.hid (show T.take (k + 1) = T.take k ++ [T[k]] from List.take_succ_eq_append_getElem hkl)
          have hlook := hK.look q (by omega) (by omega)
          rw [← hTq, decide_eq_false hnew, hTq] at hlook
          rw [hTq] at hsn
          obtain ⟨b2, o2, rfl, hb2, hcc⟩ := (hI2.kept hB (Nat.le_refl _)).at (by omega)
          have hck := hcc k hkl 0 _ rfl
          rw [hTq, Nat.mul_one, Nat.add_zero] at hck
          clear hcc hTq hnew
          have hq0 : (0 : Int) ≤ (q : Int) := Int.natCast_nonneg _
          have hq1 : (q : Int) < (C.length : Int) := by omega
          go_wp2_with (at_mapUpdate; refine wpList_put_set _ rfl _ _ _ 52 rfl 3 4 (Maps.int_keyed Try.underlying3) Try.underlying52 Try.underlying4 w2.heap.size n _ rfl hK (by unfold maxLen; omega) (.int .i64 q) true (.int .i64 q) rfl rfl (int_key (by omega) (by omega)) trivial (inL (T.take k ++ [(q : Int)])) (inL_new _ _) (inL_old _ _) ?_; intro w3 hK3 hg3)
          go_roundw
          case rel => exact ⟨k + 1, n + 1, by go_num, by omega, by omega, by rw [hsn.out]; exact hK3, hB.trans ⟨hg3.os, hg3.tape, hg3.output, hg3.size, fun i hi => hg3.block i (Nat.lt_of_lt_of_le hi hB.size) (fun e => by simp at e; omega)⟩⟩
          case measure => first | (simp [intOf]; done) | (simp [intOf]; omega)
        · obtain rfl : k = T.length := by omega
          rw [List.take_length] at hK
          have hJ3 := hJ2.kept hB (Nat.le_refl _)
          have hI3 := hI2.kept hB (Nat.le_refl _)
          have hB3 : Below w.heap.size w wr := hB2.trans (hB.mono hB2.size)
          have hlk : ∀ (x : Int) (m : Nat), -9223372036854775808 ≤ x → x ≤ 9223372036854775807 → (Instr.lookup 52 (.map (some w2.heap.size)) (.int .i64 x) false).run Try.prog (wr.drewN m) = .ok (.bool (decide (x ∈ T))) (wr.drewN m) := fun x m h0 h1 => Keys.look (hK.drewN m) x h0 h1
          clear hK hB hJ2 hI2 hB2 hB1
          go_wp2_with fail
          go_loopw [68] (fun i wi => ∃ k m : Nat, i = .int .i64 k ∧ k ≤ C.length ∧ wi = wr.drewN m) (fun i _ => C.length - (intOf i).toNat)
          case atStart => exact ⟨0, 0, rfl, Nat.zero_le _, rfl⟩
          case round =>
            obtain ⟨k, m, rfl, hk, rfl⟩ := hrel
            have hk0 : (0 : Int) ≤ (k : Int) := Int.natCast_nonneg _
            by_cases hkl : k < C.length
            · have hkl' : (k : Int) < (C.length : Int) := by omega
              obtain ⟨b1, o1, rfl, hb1, hcc⟩ := hJ3.at (by omega)
              have hck := hcc k hkl 0 _ rfl
              rw [Nat.mul_one, Nat.add_zero] at hck
              go_wp2_with fail
              go_loopw [75] (fun i wi => ∃ j m : Nat, i = .int .i64 j ∧ j ≤ T.length ∧ wi = wr.drewN m) (fun i _ => T.length - (intOf i).toNat)
              case atStart => exact ⟨0, m, rfl, Nat.zero_le _, rfl⟩
              case round =>
                obtain ⟨j, m, rfl, hj, rfl⟩ := hrel
                have hj0 : (0 : Int) ≤ (j : Int) := Int.natCast_nonneg _
                by_cases hjl : j < T.length
                · have hjl' : (j : Int) < (T.length : Int) := by omega
                  obtain ⟨q, hq, hTq⟩ := hT0 _ (List.getElem_mem hjl)
                  obtain ⟨b2, o2, rfl, hb2, hcd⟩ := hI3.at (by omega)
                  have hcj := hcd j hjl 0 _ rfl
                  rw [hTq, Nat.mul_one, Nat.add_zero] at hcj
                  have hcq := hcc q hq 0 _ rfl
                  rw [Nat.mul_one, Nat.add_zero] at hcq
                  have hin : (q : Int) ∈ T := by rw [← hTq]; exact List.getElem_mem hjl
                  have hq0 : (0 : Int) ≤ (q : Int) := Int.natCast_nonneg _
                  have hq1 : (q : Int) < (C.length : Int) := by omega
                  clear hTq hcd
                  by_cases hkT : (k : Int) ∈ T
                  · have hlook := hlk k m (by omega) (by omega)
                    rw [decide_eq_true hkT] at hlook
                    clear hcc hkT
                    go_wp2_with fail
                    go_roundw
                    case rel => exact ⟨j + 1, _, by go_num, by omega, rfl⟩
                    case measure => first | (simp [intOf]; done) | (simp [intOf]; omega)
                  · have hlook := hlk k m (by omega) (by omega)
                    rw [decide_eq_false hkT] at hlook
                    obtain ⟨hle, heq⟩ := hTx k q hkl hq hin hkT
                    clear hcc hkT
                    generalize C[k] = xk at *
                    generalize C[q] = xq at *
                    have hd1 : decide (xq < xk) = false := by simpa using hle
                    by_cases hxe : xk = xq
                    · have hqk := heq hxe
                      have hd2 : decide (k < q) = false := by simp; omega
                      subst hxe
                      clear heq hle
                      go_wp2_with fail
                      go_roundw
                      case rel => exact ⟨j + 1, _, by go_num, by omega, rfl⟩
                      case measure => first | (simp [intOf]; done) | (simp [intOf]; omega)
                    · have hd2 : (xk == xq) = false := by simpa using hxe
                      clear heq hle hxe
                      go_wp2_with fail
                      go_roundw
                      case rel => exact ⟨j + 1, _, by go_num, by omega, rfl⟩
                      case measure => first | (simp [intOf]; done) | (simp [intOf]; omega)
                · obtain rfl : j = T.length := by omega
                  go_wp2_with fail
                  go_roundw
                  case rel => exact ⟨k + 1, m, by go_num, by omega, rfl⟩
                  case measure => first | (simp [intOf]; done) | (simp [intOf]; omega)
            · obtain rfl : k = C.length := by omega
              have hB5 := below_drewN hB3 m
              have hJ5 : IntsAt (wr.drewN m) ao1 C := hJ3
              go_wp2_with fail
              refine (thread (fullest_any ao1 c1 C (wr.drewN m) hJ5 (by omega) (fun x hx => (hCr x hx).1)) w.heap.size w hB5 hB5.size).mono ?_
              rintro e w4 ⟨hful, hB4, hk4, -, hs4, hz4⟩
              have hJ4 := hJ5.keptAt hs4 (fun b o h => hk4 b o h)
              clear hk4 hI3 hJ3 hlk hTx hTn hT0
              have hjm : jmin most (C.length : Int) = (T.length : Int) := jmin_len hm0 hTl'.out
              rcases hful with ⟨hS, rfl⟩ | ⟨q, hq, rfl, hS, hS2⟩
              · go_wp2_with (go_at_call 22; refine (thread (wakes19 _) w.heap.size w hB4 hz4).mono ?_; rintro e w5 ⟨rfl, hB6, -, -, hs6, hz6⟩)
                go_ret
                exact ⟨rfl, hB6⟩
              · have hy := hCr _ (List.getElem_mem hq)
                have hq0 : (0 : Int) ≤ (q : Int) := Int.natCast_nonneg _
                have hq1 : (q : Int) < (C.length : Int) := by omega
                have hmul : 0 ≤ C[q] * (C.length : Int) ∧ C[q] * (C.length : Int) ≤ 255 * 80 := by
                  exact mul_bound hy (by omega)
                obtain ⟨hmul0, hmul1⟩ := hmul
                obtain ⟨b1, o1, rfl, hb1, hcc⟩ := hJ4.at (by omega)
                have hcq := hcc q hq 0 _ rfl
                rw [Nat.mul_one, Nat.add_zero] at hcq
                clear hcc
                generalize C[q] = y at *
                go_wp2_with (go_at_call 22; refine (thread (wakes19 _) w.heap.size w hB4 hz4).mono ?_; rintro e w5 ⟨rfl, hB6, hk6, -, hs6, hz6⟩; have hcq6 := (hk6 b1 (o1 + q) hb1).trans hcq; clear hk6)
                go_ret
                exact ⟨rfl, hB6⟩

end Go.Proofs.Ytfnjomhefklbiaa
