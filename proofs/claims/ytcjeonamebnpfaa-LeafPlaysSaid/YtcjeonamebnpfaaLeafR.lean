/-
  The walk of LeafOrder.
-/
import Derived.Test.YtcjeonamebnpfaaOrdE
import Derived.Test.YtcjeonamebnpfaaWakeE
import Derived.Test.YtcjeonamebnpfaaOpen
import Derived.Deep.RegionHeld3
import Derived.BigQuiet
import Derived.Deep.DrawnRows
namespace Go.Proofs.Ytcjeonamebnpfaa
open Go.RowKit
attribute [local go_sem ↓] Go.wp_at_zero Go.wp_at_succ

theorem elemJ : Try.prog.elem 56 = 57 := by kernel_rfl
theorem underJ : Try.prog.underlying 56 = some (.slice (Try.prog.elem 56)) := by rw [elemJ]; exact Try.underlying56
theorem sizeElemJ (w : World) : (sizeOf (Try.prog.elem 56)).run Try.prog w = .ok 4 w := by kernel_rfl
theorem cut_itemsJ (ao : Option Addr) (n c i : Nat) (hin : i ≤ n) (hnc : n ≤ c) (w : World) : (Instr.slice 56 (.slice ao n c) none (some (.int .i64 (i : Int))) none).run Try.prog w = .ok (.slice ao i c) w := by
  rw [run_slice_h w 56 ao n c underJ .i64 i (by omega) (by omega)]
  rw [sizeElemJ]
  have e : ao.map (·.add 0) = ao := by cases ao <;> simp [Addr.add]
  simp [Result.andThen, sliced, e]

set_option maxRecDepth 100000 in
set_option maxHeartbeats 8000000 in
theorem leafOrder_walk (v : Value) (l : List Upd) (t : Nat) (w : World) (hl : ArgUpds w v l) (ht : t < 256) :
    Calls Try.prog 5 #[v, .int .u8 t] w fun e w' => e = .returned (.bool true) ∧ Below w.heap.size w w' := by
  have hmm := @run_makeMap Try.prog
  obtain ⟨i0, hi, hz0, hz1, hzb⟩ := info_parts infoU
  have hmin := fun ts t a b w => run_tmin (P := Try.prog) ts t a b w
  have hm : tmin (l.length : Int) 15 = ((min l.length 15 : Nat) : Int) := tmin_nat _ 15
  obtain ⟨hform, hwf, hsize⟩ := hl
  obtain ⟨ao, c, rfl, hx, hc1, hc2, hn⟩ := hform
  generalize hM : min l.length 15 = m at *
  have hmx : m ≤ l.length := by omega
  have hm20 : m ≤ 15 := by omega
  have hcut := fun W => cut_itemsJ ao l.length c m hmx hc1 W
  go_enter Try.func5, Try.ntmps5
  go_wp2_with fail
  go_loopw [24, 5] (fun i s wr => ∃ (k n : Nat), i = .int .i64 k ∧ k ≤ m ∧ n ≤ k ∧ AllE w (firstsE (l.take k)) n s wr) (fun i _ _ => m - (intOf i).toNat)
  case atStart => exact ⟨0, 0, rfl, Nat.zero_le _, Nat.le_refl _, World.ownsRow_nil _ _ _ _, (by simpa [firstsE] using KeyS.start w), by go_grown⟩
  case round =>
    obtain ⟨k, n, rfl, hk, hnk, hA⟩ := hrel
    have hk0 : (0 : Int) ≤ (k : Int) := Int.natCast_nonneg _
    by_cases hkm : k < m
    · have hk1 : (k : Int) < (m : Int) := by omega
      have hkl : k < l.length := by omega
      have hsn := firstsE_snoc l k hkl
      obtain ⟨hw1, hw2⟩ := hwf _ (List.getElem_mem hkl)
      obtain ⟨hu1, hu2⟩ := hsize _ (List.getElem_mem hkl)
      obtain ⟨b, off, rfl, hb, t0, t1, t2, t3⟩ := SlAt.cells4 hx k hkl
      have q0 := (cell_below hA.below hb _).trans t0
      have q1 := (cell_below hA.below hb _).trans t1
      have q2 := (cell_below hA.below hb _).trans t2
      have q3 := (cell_below hA.below hb _).trans t3
      clear t0 t1 t2 t3
      generalize l[k] = u at *
      generalize hF : firstsE (l.take k) = F at *
      have hsn' := Lib.hid hsn
      have HA := Lib.hid hA
      clear hsn hA
      go_wp2_with fail
      refine (thread (of_upd u _ hu1 hu2) wr.heap.size wr (by go_grown) (by go_grown)).mono ?_
      rintro e w1 ⟨⟨T, hT, rfl⟩, hB1, -, -, hs1, -⟩
      have hs1' : wr.heap.size < w1.heap.size := by simp at hs1; omega
      have hTf := of_fits u ⟨hw1, hw2⟩
      rw [hT] at hTf
      obtain ⟨-, hTk, -⟩ := hTf
      have HA1 := Lib.hid (HA.out.on hB1)
      have hlook := KeyS.look ((HA1.out.on (w' := (w1.alloc (.cells #[.int .u8 T.kind, .string (S T.key), .string (S T.val), .int .u64 T.delta] 31)).alloc (.cells #[.int .u8 T.kind, .string (S T.key), .string (S T.val), .int .u64 T.delta] 32)) (by go_grown)).set) T.key (by omega)
      clear hs1 q0 q1 q2 q3 HA
      have HA2 := Lib.hid (HA1.out.on (w' := (w1.alloc (.cells #[.int .u8 T.kind, .string (S T.key), .string (S T.val), .int .u64 T.delta] 31)).alloc (.cells #[.int .u8 T.kind, .string (S T.key), .string (S T.val), .int .u64 T.delta] 32)) (by go_grown))
      have hszA := HA1.out.size
      by_cases hmem : T.key ∈ F.map Upd.key
      · rw [decide_eq_true hmem] at hlook
        go_wp2_with fail
        go_roundw
        case rel => exact ⟨k + 1, n, by go_num, by omega, by omega, by rw [hsn'.out, firstStepE, hT, if_pos hmem]; exact HA2.out⟩
        case measure => first | (simp [intOf]; done) | (simp [intOf]; omega)
      · rw [decide_eq_false hmem] at hlook
        have hFl : F.length ≤ 20 := by
          have h2 := firstsE_len (l.take k)
          rw [hF, List.length_take] at h2
          omega
        have hFn := Lib.hid (show firstsE (l.take (k + 1)) = F ++ [T] by rw [hsn'.out, firstStepE, hT, if_neg hmem])
        go_wp2_with (first
          | (at_mapUpdate; refine wpList_put_set _ rfl _ _ _ 25 rfl 9 4 (Maps.string_keyed Try.underlying9) Try.underlying25 Try.underlying4 w.heap.size n _ rfl HA2.out.set (by unfold maxLen; omega) (.string (S T.key)) true (.string T.key) rfl rfl (str_key T.key (by omega)) trivial (inK (F.map Upd.key ++ [T.key])) (inK_new _ _) (inK_old _ _) ?_; intro w3 hK3 hg3; have hs3 := hg3.size; have r0 : w3.cell? ⟨w1.heap.size, 0, none⟩ = some (.int .u8 T.kind) := hg3.cell (by simp) (by simp; omega); have r1 : w3.cell? ⟨w1.heap.size, 1, none⟩ = some (.string (S T.key)) := hg3.cell (by simp) (by simp; omega); have r2 : w3.cell? ⟨w1.heap.size, 2, none⟩ = some (.string (S T.val)) := hg3.cell (by simp) (by simp; omega); have r3 : w3.cell? ⟨w1.heap.size, 3, none⟩ = some (.int .u64 T.delta) := hg3.cell (by simp) (by simp; omega))
          | (at_builtin; go_must (refine wpList_append_own_at _ rfl _ _ 24 rfl (w.heap.size + 1) 31 i0 (.agg #[.int .u8 0, .string ByteArray.empty, .string ByteArray.empty, .int .u64 0]) 4 48 Try.underlying24 hi hz0 hz1 hzb rfl (by decide) _ F.length _ rfl ((HA2.out.own.kept hg3 (Or.inr (fun e => by have := (HA2.out.own.lt _ e).1; omega))).alloc _) ⟨w3.heap.size, 0, none⟩ 1 1 [.int .u8 T.kind, .string (S T.key), .string (S T.val), .int .u64 T.delta] rfl rfl (cell_four_new _ _ _ _ _ _) (four_oneCell _ _ _ _) (by unfold maxLen; omega) (by omega) (by simp at hs3 ⊢; omega) ?_; intro v' w4 hown' hgrow hnil hat; have hM := HA2.out.put hK3 hg3 hown' hgrow; obtain ⟨g', c', e'⟩ := own_form hown'; subst e')))
        go_roundw
        case rel => exact ⟨k + 1, n + 1, by go_num, by omega, by omega, by rw [hFn.out]; exact hM⟩
        case measure => first | (simp [intOf]; done) | (simp [intOf]; omega)
    · obtain rfl : k = m := by omega
      have hok := firstsE_ok (l.take k) (fun u hu => hwf u (List.mem_of_mem_take hu))
      have hFl : (firstsE (l.take k)).length ≤ 20 := by
        have h2 := firstsE_len (l.take k)
        rw [List.length_take] at h2
        omega
      generalize firstsE (l.take k) = F at *
      clear hx hwf hsize hcut hmm hmin hm hM
      obtain ⟨hFok, hFn⟩ := hok
      obtain ⟨g7, c7, e7⟩ := own_form hA.own
      subst e7
      have HA := Lib.hid hA
      have hAz := hA.size
      clear hA
      obtain ⟨wT, hwT⟩ : ∃ wT, wT = wr := ⟨_, rfl⟩
      subst hwT
      have HF := Lib.hid hFok
      have HN := Lib.hid hFn
      clear hFok hFn
      go_wp2_with fail
      refine (thread (beg_call _ wT.heap.size (slU_laid wT _ _ begU _ _ _ rfl rfl rfl (by decide))) wT.heap.size wT (by go_grown) (by go_grown)).mono ?_
      rintro e w1 ⟨⟨a1, c1, rfl, hb1⟩, hX1, -, -, hs1, hz1⟩
      have hX1' := hX1
      have H1 := Lib.hid hb1
      have HA1 := Lib.hid (HA.out.on hX1)
      have hs1' : wT.heap.size < w1.heap.size := by simp at hs1; omega
      have hAz1 : w.heap.size < w1.heap.size := by omega
      clear hb1 hX1 hs1 HA
      generalize hbl : begE.length = bl0 at *
      go_wp2_with fail
      have hpq : w1.heap.size ≠ w1.heap.size + 1 := by omega
      go_loopw [54] (fun i wr => ∃ k : Nat, i = .int .i64 k ∧ k ≤ F.length ∧ InBoxE w1.heap.size (onAll begE (F.take k)) wr ∧ InBoxE (w1.heap.size + 1) (onAll begE (rotL F t k)) wr ∧ Below w1.heap.size w1 wr) (fun i _ => F.length - (intOf i).toNat)
      case atStart =>
        subst hbl
        exact ⟨0, rfl, Nat.zero_le _, (InBoxE.new _ H1.out).on (by go_grown), by simpa [rotL, onAll] using InBoxE.new (w := w1.alloc (.cells #[.slice a1 begE.length c1] 45)) 45 (H1.out.kept (by go_grown) (Nat.le_refl _)), by go_grown⟩
      case round =>
        obtain ⟨k, rfl, hk, hP, hQ, hB⟩ := hrel
        have hk0 : (0 : Int) ≤ (k : Int) := Int.natCast_nonneg _
        clear H1
        by_cases hkF : k < F.length
        · have hk1 : (k : Int) < (F.length : Int) := by omega
          obtain ⟨g, rfl, hg1, hg2, hrow⟩ := own_at HA1.out.own (by omega)
          have t0 := (cell_below hB hg2 _).trans (hrow (k * 4 + 0) _ (cellsU_get F k hkF 0 _ rfl))
          have t1 := (cell_below hB hg2 _).trans (hrow (k * 4 + 1) _ (cellsU_get F k hkF 1 _ rfl))
          have t2 := (cell_below hB hg2 _).trans (hrow (k * 4 + 2) _ (cellsU_get F k hkF 2 _ rfl))
          have t3 := (cell_below hB hg2 _).trans (hrow (k * 4 + 3) _ (cellsU_get F k hkF 3 _ rfl))
          rw [Nat.add_zero] at t0
          have HP := Lib.hid hP
          have HQ := Lib.hid hQ
          have HP' := Lib.hid hP.drew
          obtain ⟨⟨a, ca, p1, p2⟩, pf, pl⟩ := hP
          clear hQ
          have HW := Lib.hid (leafOn_next a _ ca begE (F.take k) F[k] wr.drew 31 beg_ok.1 beg_ok.2 (by decide) rfl (p2.kept (below_drew' (Below.refl _ _)) (Nat.le_refl _)) (by rw [List.length_take]; omega) (HF.out _ (List.getElem_mem hkF)).1)
          have hsn : Hid (F.take (k + 1) = F.take k ++ [F[k]]) := Lib.hid (List.take_succ_eq_append_getElem hkF)
          clear p2
          generalize F[k] = u at *
          go_wp2_with fail
          go_region_law (first | (go_simp; go_at_call 16; refine (HW.out).mono ?_; rintro e w3 ⟨⟨a', c', rfl, hb'⟩, hbl'⟩; have z1 := kept_cell hbl' (cell_drew p1); have z2 := ((bcell hbl').2 w1.heap.size 0 pl).trans (frozen_drew pf); have HX := Lib.hid (InBoxE.put (HP'.out.on hbl') hb'); have HY := Lib.hid ((HQ.out.drew.on hbl').beside (HP'.out.on hbl') (by omega) (.slice a' (onAll begE (F.take k ++ [u])).length c')); have HZ := Lib.hid (((below_drew' hB).trans (below_same hbl' hB.size)).setCell (p := ⟨w1.heap.size, 0, none⟩) (Nat.le_refl _) (.slice a' (onAll begE (F.take k ++ [u])).length c'))))
          all_goals (
            clear z1 z2 hbl' hb' HP HQ HP' HW p1 pf t0 t1 t2 t3
            generalize w3.setCell ⟨w1.heap.size, 0, none⟩ (.slice a' (onAll begE (F.take k ++ [u])).length c') = w4 at *
            have hj : (k + t) % F.length < F.length := Nat.mod_lt _ (by omega)
            have hrs := Lib.hid (rotL_snoc F t k hj)
            have hB4 := HZ.out
            have r0 := (cell_below hB4 hg2 _).trans (hrow ((k + t) % F.length * 4 + 0) _ (cellsU_get F _ hj 0 _ rfl))
            have r1 := (cell_below hB4 hg2 _).trans (hrow ((k + t) % F.length * 4 + 1) _ (cellsU_get F _ hj 1 _ rfl))
            have r2 := (cell_below hB4 hg2 _).trans (hrow ((k + t) % F.length * 4 + 2) _ (cellsU_get F _ hj 2 _ rfl))
            have r3 := (cell_below hB4 hg2 _).trans (hrow ((k + t) % F.length * 4 + 3) _ (cellsU_get F _ hj 3 _ rfl))
            rw [Nat.add_zero] at r0
            have hQd := HY.out
            obtain ⟨⟨a2, ca2, p1, p2⟩, pf, pl2⟩ := hQd
            have HW := Lib.hid (leafOn_next a2 _ ca2 begE (rotL F t k) F[(k + t) % F.length] w4.drew 31 beg_ok.1 beg_ok.2 (by decide) rfl (p2.kept (below_drew' (Below.refl _ _)) (Nat.le_refl _)) (by simp [rotL]; omega) (HF.out _ (List.getElem_mem hj)).1)
            clear p2
            generalize F[(k + t) % F.length] = u2 at *
            have hjj : ((((k + t) % F.length : Nat)) : Int) = ((k + t : Nat) : Int) % (F.length : Int) := by simp
            generalize (k + t) % F.length = j at *
            have hwr : IntKind.i64.wrap ((k : Int) + (t : Int)) = (k : Int) + (t : Int) := by rw [IntKind.wrap_i64]; omega
            have hwn : (F.length : Int) ≠ 0 := by omega
            have hj0 : (0 : Int) ≤ (j : Int) := Int.natCast_nonneg _
            have hj1 : (j : Int) < (F.length : Int) := by omega
            have hwt : IntKind.i64.wrap (t : Int) = (t : Int) := by rw [IntKind.wrap_i64]; omega
            have htm : ((k : Int) + (t : Int)).tmod (F.length : Int) = (j : Int) := by rw [Int.tmod_eq_emod_of_nonneg (by omega), hjj, Int.natCast_add]
            clear hjj
            have hFn0 : ¬ F.length = 0 := by omega
            go_wp2_with fail
            go_region_law (first | (go_simp; go_at_call 16; refine (HW.out).mono ?_; rintro e w5 ⟨⟨a5, c5, rfl, hb5⟩, hbl'⟩; have z1 := kept_cell hbl' (cell_drew p1); have z2 := ((bcell hbl').2 (w1.heap.size + 1) 0 pl2).trans (frozen_drew pf); have HX5 := Lib.hid (InBoxE.put (HY.out.drew.on hbl') hb5); have HY5 := Lib.hid ((HX.out.drew.on hbl').beside (HY.out.drew.on hbl') (by omega) (.slice a5 (onAll begE (rotL F t k ++ [u2])).length c5)); have HZ5 := Lib.hid (((below_drew' hB4).trans (below_same hbl' hB4.size)).setCell (p := ⟨w1.heap.size + 1, 0, none⟩) (by show w1.heap.size ≤ w1.heap.size + 1; omega) (.slice a5 (onAll begE (rotL F t k ++ [u2])).length c5))))
            all_goals (
              clear z1 z2 hbl' hb5 HX HY HW p1 pf r0 r1 r2 r3 HZ hB4
              generalize w5.setCell ⟨w1.heap.size + 1, 0, none⟩ (.slice a5 (onAll begE (rotL F t k ++ [u2])).length c5) = w6 at *
              go_wp2_with fail
              go_roundw
              (case rel => exact (⟨k + 1, by go_num, by omega, by rw [hsn.out]; exact HY5.out, by rw [hrs.out]; exact HX5.out, HZ5.out⟩))
              (case measure => first | (simp [intOf]; done) | (simp [intOf]; omega))))
        · obtain rfl : k = F.length := by omega
          have hsame := turnedE_same F t HN.out
          rw [List.take_length] at hP
          rw [hsame] at hQ
          obtain ⟨hAr, hAf, hAl0⟩ := onAll_ok begE beg_ok.1 beg_ok.2 F
          have hAl : (onAll begE F).length ≤ 100 := by have : begE.length = 2 := rfl; omega
          have hAr' := Lib.hid hAr
          clear hsame hAf hAl0 hAr
          have hB2 := HA1.out.below.trans (hB.mono (by omega))
          obtain ⟨⟨a, ca, p1, p2⟩, -, pl⟩ := hP
          obtain ⟨⟨a2, ca2, q1, q2⟩, -, pl2⟩ := hQ
          generalize onAll begE F = A at *
          have hz2 : w.heap.size ≤ wr.heap.size := hB2.size
          have HP2 := Lib.hid p2
          have HQ2 := Lib.hid q2
          clear p2 q2
          go_wp2_with fail
          go_region_held3 (fun w' => w'.cell? ⟨w1.heap.size, 0, none⟩ = some (.slice a A.length ca) ∧ w'.cell? ⟨w1.heap.size + 1, 0, none⟩ = some (.slice a2 A.length ca2) ∧ WkOn w wr w')
          (first | assumption | (refine ⟨p1, q1, ⟨by go_grown, by go_grown⟩⟩) | exact ⟨y0, y1, y2⟩)
          (first
            | (go_at_call 20; with_reducible show Calls _ _ #[.agg #[.slice a _ ca]] _ _; go_must (obtain ⟨x0, x1, x2⟩ := ‹_ ∧ _ ∧ WkOn w wr _›; refine (listE_next a _ ca A _ rfl (HP2.out.kept x2.mid (Nat.le_refl _)) (by omega)).mono ?_; rintro e w6 ⟨⟨ax, cx, rfl, hownx⟩, hb6⟩; have y0 := kept_cell hb6 x0; have y1 := kept_cell hb6 x1; have y2 := x2.on hz2 hb6; have slx := (SlE.of_own hownx).2; (try have slx' := slx.kept hb6 (Nat.le_refl _)); (try have sly' := sly.kept hb6 (Nat.le_refl _))))
            | (go_at_call 20; with_reducible show Calls _ _ #[.agg #[.slice a2 _ ca2]] _ _; go_must (obtain ⟨x0, x1, x2⟩ := ‹_ ∧ _ ∧ WkOn w wr _›; refine (listE_next a2 _ ca2 A _ rfl (HQ2.out.kept x2.mid (Nat.le_refl _)) (by omega)).mono ?_; rintro e w6 ⟨⟨ay, cy, rfl, howny⟩, hb6⟩; have y0 := kept_cell hb6 x0; have y1 := kept_cell hb6 x1; have y2 := x2.on hz2 hb6; have sly := (SlE.of_own howny).2; (try have slx' := slx.kept hb6 (Nat.le_refl _)); (try have sly' := sly.kept hb6 (Nat.le_refl _)))))
          obtain ⟨-, -, hon⟩ := ‹_ ∧ _ ∧ WkOn w wr _›
          have SX := Lib.hid slx'
          have SY := Lib.hid sly
          clear slx' sly
          go_wp2_with fail
          refine (thread (wakesE_any _) w6.heap.size w6 (by go_grown) (by go_grown)).mono ?_
          rintro e w7 ⟨rfl, hX7, -, -, -, -⟩
          have hneq := fun a b w => ent_neq_same a b w
          have hgrd := fun op x y xs ys w => ent_guard op x y xs ys w
          have SX7 := Lib.hid (SX.out.kept hX7 (Nat.le_refl _))
          have SY7 := Lib.hid (SY.out.kept hX7 (Nat.le_refl _))
          have hon7 := hon.on hz2 hX7
          have hlow := hon7.low
          clear hX7 hon SX SY hon7 HP2 HQ2
          go_wp2_with fail
          go_loopw [93] (fun i wr => ∃ k : Nat, i = .int .i64 k ∧ k ≤ A.length ∧ Below w7.heap.size w7 wr) (fun i _ => A.length - (intOf i).toNat)
          case atStart => exact ⟨0, rfl, Nat.zero_le _, Below.refl _ _⟩
          case round =>
            obtain ⟨k, rfl, hk, hB7⟩ := hrel
            have hk0 : (0 : Int) ≤ (k : Int) := Int.natCast_nonneg _
            by_cases hkF : k < A.length
            · have hk1 : (k : Int) < (A.length : Int) := by omega
              obtain ⟨bx, ox, b', o', u, hu, rfl, rfl, ⟨t0, t1⟩, r0, r1⟩ := pairE_at (SX7.out.kept hB7 (Nat.le_refl _)) (SY7.out.kept hB7 (Nat.le_refl _)) k hkF
              rcases k with _ | q
              · rw [show ((0 : Nat) : Int) = 0 from rfl] at hk1 ⊢
                simp only [Nat.zero_mul, Nat.add_zero] at t0 t1 r0 r1
                clear hk0
                go_wp2_with fail
                go_quiet (fail)
                go_wp2_with fail
                go_roundw
                (case rel => exact (⟨1, by go_num, by omega, below_drewN hB7 _⟩))
                (case measure => first | (simp [intOf]; done) | (simp [intOf]; omega))
              · obtain ⟨bz, oz, ez, -, s0, -⟩ := (SX7.out.kept hB7 (Nat.le_refl _)).cells2 q (by omega)
                simp only [Option.some.injEq, Addr.mk.injEq, and_true] at ez
                obtain ⟨rfl, rfl⟩ := ez
                have hlt := hAr'.out.lt (show q < q + 1 by omega) hkF
                rw [hu] at hlt
                generalize A[q]'(by omega) = z at *
                go_wp2_with fail
                go_quiet (fail)
                go_wp2_with fail
                go_roundw
                (case rel => exact (⟨q + 2, by go_num, by omega, below_drewN hB7 _⟩))
                (case measure => first | (simp [intOf]; done) | (simp [intOf]; omega))
            · obtain rfl : k = A.length := by omega
              go_wp2_with fail
              go_ret
              exact ⟨rfl, hlow.trans (hB7.mono hlow.size)⟩

end Go.Proofs.Ytcjeonamebnpfaa
