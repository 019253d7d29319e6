/-
  The walk of BufOrder.
-/
import Derived.Test.YtcjeonamebnpfaaOrdL
import Derived.Test.YtcjeonamebnpfaaOrdT
import Derived.Test.YtcjeonamebnpfaaOrdQ
import Derived.Test.YtcjeonamebnpfaaWake
import Derived.Test.YtcjeonamebnpfaaOpen
import Derived.Deep.RegionHeld3
import Derived.BigQuiet
import Derived.Deep.DrawnRows
namespace Go.Proofs.Ytcjeonamebnpfaa
open Go.RowKit
attribute [local go_sem ↓] Go.wp_at_zero Go.wp_at_succ

theorem elemI : Try.prog.elem 22 = 28 := by kernel_rfl
theorem underI : Try.prog.underlying 22 = some (.slice (Try.prog.elem 22)) := by rw [elemI]; exact Try.underlying22
theorem sizeElemI (w : World) : (sizeOf (Try.prog.elem 22)).run Try.prog w = .ok 4 w := by kernel_rfl
theorem cut_items (ao : Option Addr) (n c i : Nat) (hin : i ≤ n) (hnc : n ≤ c) (w : World) : (Instr.slice 22 (.slice ao n c) none (some (.int .i64 (i : Int))) none).run Try.prog w = .ok (.slice ao i c) w := by
  rw [run_slice_h w 22 ao n c underI .i64 i (by omega) (by omega)]
  rw [sizeElemI]
  have e : ao.map (·.add 0) = ao := by cases ao <;> simp [Addr.add]
  simp [Result.andThen, sliced, e]

set_option maxRecDepth 100000 in
set_option maxHeartbeats 8000000 in
theorem bufOrder_walk (v : Value) (l : List Upd) (t : Nat) (s0 s1 : List UInt8) (w : World) (hl : ArgUpds w v l) (ht : t < 256) :
    Calls Try.prog 3 #[v, .int .u8 t, .agg #[.string (S s0), .string (S s1)]] w fun e w' => e = .returned (.bool true) ∧ Below w.heap.size w w' := by
  have hmm := @run_makeMap Try.prog
  obtain ⟨i0, hi, hz0, hz1, hzb⟩ := info_parts infoU
  have hmin := fun ts t a b w => run_tmin (P := Try.prog) ts t a b w
  have hm : tmin (l.length : Int) 20 = ((min l.length 20 : Nat) : Int) := tmin_nat _ 20
  obtain ⟨hform, hwf, hsize⟩ := hl
  obtain ⟨ao, c, rfl, hx, hc1, hc2, hn⟩ := hform
  generalize hM : min l.length 20 = m at *
  have hmx : m ≤ l.length := by omega
  have hm20 : m ≤ 20 := by omega
  have hcut := fun W => cut_items ao l.length c m hmx hc1 W
  go_enter Try.func3, Try.ntmps3
  go_wp2_with fail
  go_loopw [34, 7] (fun i s wr => ∃ (k n : Nat), i = .int .i64 k ∧ k ≤ m ∧ n ≤ k ∧ AllAt w s0 s1 (firsts (l.take k)) n s wr) (fun i _ _ => m - (intOf i).toNat)
  case atStart => exact ⟨0, 0, rfl, Nat.zero_le _, Nat.le_refl _, World.ownsRow_nil _ _ _ _, (by simpa [firsts] using KeyS.start (w.alloc (.cells #[.string (S s0), .string (S s1)] 23))), by simp [go_sem], by simp [go_sem], by go_grown⟩
  case round =>
    obtain ⟨k, n, rfl, hk, hnk, hA⟩ := hrel
    have hk0 : (0 : Int) ≤ (k : Int) := Int.natCast_nonneg _
    by_cases hkm : k < m
    · have hk1 : (k : Int) < (m : Int) := by omega
      have hkl : k < l.length := by omega
      have hsn := firsts_snoc l k hkl
      obtain ⟨hw1, hw2⟩ := hwf _ (List.getElem_mem hkl)
      obtain ⟨hu1, hu2⟩ := hsize _ (List.getElem_mem hkl)
      obtain ⟨b, off, rfl, hb, t0, t1, t2, t3⟩ := SlAt.cells4 hx k hkl
      have q0 := (cell_below hA.below hb _).trans t0
      have q1 := (cell_below hA.below hb _).trans t1
      have q2 := (cell_below hA.below hb _).trans t2
      have q3 := (cell_below hA.below hb _).trans t3
      clear t0 t1 t2 t3
      generalize l[k] = u at *
      generalize hF : firsts (l.take k) = F at *
      have hsn' := Lib.hid hsn
      have HA := Lib.hid hA
      clear hsn hA
      go_wp2_with fail
      refine (thread (tame_upd u _ hw1 hu1 hu2) wr.heap.size wr (by go_grown) (by go_grown)).mono ?_
      rintro e w1 ⟨⟨T, hT, rfl⟩, hB1, -, -, hs1, -⟩
      have hs1' : wr.heap.size < w1.heap.size := by simp at hs1; omega
      have hTf := tame_fits u ⟨hw1, hw2⟩
      rw [hT] at hTf
      obtain ⟨-, hTk, -⟩ := hTf
      have HA1 := Lib.hid (HA.out.on hB1)
      have hlook := KeyS.look ((HA1.out.on (w' := (w1.alloc (.cells #[.int .u8 T.kind, .string (S T.key), .string (S T.val), .int .u64 T.delta] 31)).alloc (.cells #[.int .u8 T.kind, .string (S T.key), .string (S T.val), .int .u64 T.delta] 32)) (by go_grown)).set) T.key (by omega)
      clear hs1 q0 q1 q2 q3 HA
      have HA2 := Lib.hid (HA1.out.on (w' := (w1.alloc (.cells #[.int .u8 T.kind, .string (S T.key), .string (S T.val), .int .u64 T.delta] 31)).alloc (.cells #[.int .u8 T.kind, .string (S T.key), .string (S T.val), .int .u64 T.delta] 32)) (by go_grown))
      have hszA := HA1.out.size
      by_cases hmem : T.key ∈ F.map Upd.key
      · rw [decide_eq_true hmem] at hlook
        go_wp2_with fail
        go_roundw
        case rel => exact ⟨k + 1, n, by go_num, by omega, by omega, by rw [hsn'.out, firstStep, hT, if_pos hmem]; exact HA2.out⟩
        case measure => first | (simp [intOf]; done) | (simp [intOf]; omega)
      · rw [decide_eq_false hmem] at hlook
        have hFl : F.length ≤ 20 := by
          have h2 := firsts_len (l.take k)
          rw [hF, List.length_take] at h2
          omega
        have hFn := Lib.hid (show firsts (l.take (k + 1)) = F ++ [T] by rw [hsn'.out, firstStep, hT, if_neg hmem])
        go_wp2_with (first
          | (at_mapUpdate; refine wpList_put_set _ rfl _ _ _ 25 rfl 9 4 (Maps.string_keyed Try.underlying9) Try.underlying25 Try.underlying4 (w.heap.size + 1) n _ rfl HA2.out.set (by unfold maxLen; omega) (.string (S T.key)) true (.string T.key) rfl rfl (str_key T.key (by omega)) trivial (inK (F.map Upd.key ++ [T.key])) (inK_new _ _) (inK_old _ _) ?_; intro w3 hK3 hg3; have hs3 := hg3.size; have r0 : w3.cell? ⟨w1.heap.size, 0, none⟩ = some (.int .u8 T.kind) := hg3.cell (by simp) (by simp; omega); have r1 : w3.cell? ⟨w1.heap.size, 1, none⟩ = some (.string (S T.key)) := hg3.cell (by simp) (by simp; omega); have r2 : w3.cell? ⟨w1.heap.size, 2, none⟩ = some (.string (S T.val)) := hg3.cell (by simp) (by simp; omega); have r3 : w3.cell? ⟨w1.heap.size, 3, none⟩ = some (.int .u64 T.delta) := hg3.cell (by simp) (by simp; omega))
          | (at_builtin; go_must (refine wpList_append_own_at _ rfl _ _ 24 rfl (w.heap.size + 2) 31 i0 (.agg #[.int .u8 0, .string ByteArray.empty, .string ByteArray.empty, .int .u64 0]) 4 48 Try.underlying24 hi hz0 hz1 hzb rfl (by decide) _ F.length _ rfl ((HA2.out.own.kept hg3 (Or.inr (fun e => by have := (HA2.out.own.lt _ e).1; omega))).alloc _) ⟨w3.heap.size, 0, none⟩ 1 1 [.int .u8 T.kind, .string (S T.key), .string (S T.val), .int .u64 T.delta] rfl rfl (cell_four_new _ _ _ _ _ _) (four_oneCell _ _ _ _) (by unfold maxLen; omega) (by omega) (by simp at hs3 ⊢; omega) ?_; intro v' w4 hown' hgrow hnil hat; have hM := HA2.out.put hK3 hg3 hown' hgrow; obtain ⟨g', c', e'⟩ := own_form hown'; subst e')))
        go_roundw
        case rel => exact ⟨k + 1, n + 1, by go_num, by omega, by omega, by rw [hFn.out]; exact hM⟩
        case measure => first | (simp [intOf]; done) | (simp [intOf]; omega)
    · obtain rfl : k = m := by omega
      have hok := firsts_ok (l.take k) (fun u hu => hwf u (List.mem_of_mem_take hu))
      have hFl : (firsts (l.take k)).length ≤ 20 := by
        have h2 := firsts_len (l.take k)
        rw [List.length_take] at h2
        omega
      generalize firsts (l.take k) = F at *
      clear hx hwf hsize hcut hmm hmin hm hM
      obtain ⟨hFok, hFn⟩ := hok
      obtain ⟨g7, c7, e7⟩ := own_form hA.own
      subst e7
      have HA := Lib.hid hA
      have hAz := hA.size
      clear hA
      obtain ⟨wT, hwT⟩ : ∃ wT, wT = wr := ⟨_, rfl⟩
      subst hwT
      have HF := Lib.hid hFok
      have HN := Lib.hid hFn
      clear hFok hFn
      go_wp2_with fail
      go_loopw [58] (fun i wr => ∃ k : Nat, i = .int .i64 k ∧ k ≤ F.length ∧ InBox wT.heap.size (withAll (F.take k)) wr ∧ InBox (wT.heap.size + 1) (withAll (rotL F t k)) wr ∧ Below wT.heap.size wT wr) (fun i _ => F.length - (intOf i).toNat)
      case atStart => exact ⟨0, rfl, Nat.zero_le _, (InBox.new wT _).on (by go_grown), by simpa [rotL, withAll] using InBox.new (wT.alloc (.cells #[.slice none 0 0] 36)) 36, by go_grown⟩
      case round =>
        obtain ⟨k, rfl, hk, hP, hQ, hB⟩ := hrel
        have hk0 : (0 : Int) ≤ (k : Int) := Int.natCast_nonneg _
        by_cases hkF : k < F.length
        · have hk1 : (k : Int) < (F.length : Int) := by omega
          obtain ⟨g, rfl, hg1, hg2, hrow⟩ := own_at HA.out.own (by omega)
          have t0 := (cell_below hB hg2 _).trans (hrow (k * 4 + 0) _ (cellsU_get F k hkF 0 _ rfl))
          have t1 := (cell_below hB hg2 _).trans (hrow (k * 4 + 1) _ (cellsU_get F k hkF 1 _ rfl))
          have t2 := (cell_below hB hg2 _).trans (hrow (k * 4 + 2) _ (cellsU_get F k hkF 2 _ rfl))
          have t3 := (cell_below hB hg2 _).trans (hrow (k * 4 + 3) _ (cellsU_get F k hkF 3 _ rfl))
          rw [Nat.add_zero] at t0
          have HP := Lib.hid hP
          have HQ := Lib.hid hQ
          have HP' := Lib.hid hP.drew
          obtain ⟨⟨a, ca, p1, p2⟩, pf, pl⟩ := hP
          clear hQ
          have HW := Lib.hid (with_next a _ ca (F.take k) F[k] wr.drew rfl (p2.kept (below_drew' (Below.refl _ _)) (Nat.le_refl _)) (by rw [List.length_take]; omega) (fun x hx => ⟨(HF.out x (List.mem_of_mem_take hx)).1, by have := (HF.out x (List.mem_of_mem_take hx)).2.2; omega⟩) (HF.out _ (List.getElem_mem hkF)).1)
          have hsn : Hid (F.take (k + 1) = F.take k ++ [F[k]]) := Lib.hid (List.take_succ_eq_append_getElem hkF)
          clear p2
          generalize F[k] = u at *
          go_wp2_with fail
          go_region_law (first | (go_simp; go_at_call 12; refine (HW.out).mono ?_; rintro e w3 ⟨⟨a', c', rfl, hb'⟩, hbl⟩; have z1 := kept_cell hbl (cell_drew p1); have z2 := ((bcell hbl).2 wT.heap.size 0 pl).trans (frozen_drew pf); have HX := Lib.hid (InBox.put (HP'.out.on hbl) hb'); have HY := Lib.hid ((HQ.out.drew.on hbl).beside (HP'.out.on hbl) (by omega) (.slice a' (withAll (F.take k ++ [u])).length c')); have HZ := Lib.hid (((below_drew' hB).trans (below_same hbl hB.size)).setCell (p := ⟨wT.heap.size, 0, none⟩) (Nat.le_refl _) (.slice a' (withAll (F.take k ++ [u])).length c'))))
          all_goals (
            clear z1 z2 hbl hb' HP HQ HP' HW p1 pf t0 t1 t2 t3
            generalize w3.setCell ⟨wT.heap.size, 0, none⟩ (.slice a' (withAll (F.take k ++ [u])).length c') = w4 at *
            have hj : (k + t) % F.length < F.length := Nat.mod_lt _ (by omega)
            have hrs := Lib.hid (rotL_snoc F t k hj)
            have hB4 := HZ.out
            have r0 := (cell_below hB4 hg2 _).trans (hrow ((k + t) % F.length * 4 + 0) _ (cellsU_get F _ hj 0 _ rfl))
            have r1 := (cell_below hB4 hg2 _).trans (hrow ((k + t) % F.length * 4 + 1) _ (cellsU_get F _ hj 1 _ rfl))
            have r2 := (cell_below hB4 hg2 _).trans (hrow ((k + t) % F.length * 4 + 2) _ (cellsU_get F _ hj 2 _ rfl))
            have r3 := (cell_below hB4 hg2 _).trans (hrow ((k + t) % F.length * 4 + 3) _ (cellsU_get F _ hj 3 _ rfl))
            rw [Nat.add_zero] at r0
            have hQd := HY.out
            obtain ⟨⟨a2, ca2, p1, p2⟩, pf, pl2⟩ := hQd
            have HW := Lib.hid (with_next a2 _ ca2 (rotL F t k) F[(k + t) % F.length] w4.drew rfl (p2.kept (below_drew' (Below.refl _ _)) (Nat.le_refl _)) (by simp [rotL]; omega) (fun x hx => ⟨(HF.out x (rotL_mem (by omega) hx)).1, by have := (HF.out x (rotL_mem (by omega) hx)).2.2; omega⟩) (HF.out _ (List.getElem_mem hj)).1)
            clear p2
            generalize F[(k + t) % F.length] = u2 at *
            have hjj : ((((k + t) % F.length : Nat)) : Int) = ((k + t : Nat) : Int) % (F.length : Int) := by simp
            generalize (k + t) % F.length = j at *
            have hwr : IntKind.i64.wrap ((k : Int) + (t : Int)) = (k : Int) + (t : Int) := by rw [IntKind.wrap_i64]; omega
            have hwn : (F.length : Int) ≠ 0 := by omega
            have hj0 : (0 : Int) ≤ (j : Int) := Int.natCast_nonneg _
            have hj1 : (j : Int) < (F.length : Int) := by omega
            have hwt : IntKind.i64.wrap (t : Int) = (t : Int) := by rw [IntKind.wrap_i64]; omega
            have htm : ((k : Int) + (t : Int)).tmod (F.length : Int) = (j : Int) := by rw [Int.tmod_eq_emod_of_nonneg (by omega), hjj, Int.natCast_add]
            clear hjj
            have hFn0 : ¬ F.length = 0 := by omega
            go_wp2_with fail
            go_region_law (first | (go_simp; go_at_call 12; refine (HW.out).mono ?_; rintro e w5 ⟨⟨a5, c5, rfl, hb5⟩, hbl⟩; have z1 := kept_cell hbl (cell_drew p1); have z2 := ((bcell hbl).2 (wT.heap.size + 1) 0 pl2).trans (frozen_drew pf); have HX5 := Lib.hid (InBox.put (HY.out.drew.on hbl) hb5); have HY5 := Lib.hid ((HX.out.drew.on hbl).beside (HY.out.drew.on hbl) (by omega) (.slice a5 (withAll (rotL F t k ++ [u2])).length c5)); have HZ5 := Lib.hid (((below_drew' hB4).trans (below_same hbl hB4.size)).setCell (p := ⟨wT.heap.size + 1, 0, none⟩) (by show wT.heap.size ≤ wT.heap.size + 1; omega) (.slice a5 (withAll (rotL F t k ++ [u2])).length c5))))
            all_goals (
              clear z1 z2 hbl hb5 HX HY HW p1 pf r0 r1 r2 r3 HZ hB4
              generalize w5.setCell ⟨wT.heap.size + 1, 0, none⟩ (.slice a5 (withAll (rotL F t k ++ [u2])).length c5) = w6 at *
              go_wp2_with fail
              go_roundw
              (case rel => exact (⟨k + 1, by go_num, by omega, by rw [hsn.out]; exact HY5.out, by rw [hrs.out]; exact HX5.out, HZ5.out⟩))
              (case measure => first | (simp [intOf]; done) | (simp [intOf]; omega))))
        · obtain rfl : k = F.length := by omega
          have hsame := turned_same F t (fun u hu => ⟨(HF.out u hu).1, by have := (HF.out u hu).2.2; omega⟩) HN.out
          rw [List.take_length] at hP
          rw [hsame] at hQ
          have hWok := withAll_ok F (fun u hu => ⟨(HF.out u hu).1, by have := (HF.out u hu).2.2; omega⟩)
          have hWl := (withAll_perm F (fun u hu => ⟨(HF.out u hu).1, by have := (HF.out u hu).2.2; omega⟩) HN.out).length_eq
          have hB2 := HA.out.below.trans (hB.mono (by omega))
          have k0 := (cell_below hB (by omega) 0).trans HA.out.key0
          have k1 := (cell_below hB (by omega) 1).trans HA.out.key1
          clear hsame
          generalize withAll F = A at *
          obtain ⟨⟨a, ca, p1, p2⟩, -, pl⟩ := hP
          obtain ⟨⟨a2, ca2, q1, q2⟩, -, pl2⟩ := hQ
          rw [hWl] at p1 p2 q1 q2
          have hz2 : w.heap.size ≤ wr.heap.size := hB2.size
          have HP2 := Lib.hid p2
          have HQ2 := Lib.hid q2
          have hWl := Lib.hid hWl
          clear p2 q2
          go_wp2_with fail
          go_region_held3 (fun w' => w'.cell? ⟨wT.heap.size, 0, none⟩ = some (.slice a F.length ca) ∧ w'.cell? ⟨wT.heap.size + 1, 0, none⟩ = some (.slice a2 F.length ca2) ∧ WkOn w wr w')
          (first | assumption | (refine ⟨p1, q1, ⟨by go_grown, by go_grown⟩⟩) | exact ⟨y0, y1, y2⟩)
          (first
            | (go_at_call 13; with_reducible show Calls _ _ #[.agg #[.slice a _ ca]] _ _; go_must (obtain ⟨x0, x1, x2⟩ := ‹_ ∧ _›; refine (list_next a _ ca A _ hWl.out.symm (HP2.out.kept x2.mid (Nat.le_refl _)) (by rw [hWl.out]; omega)).mono ?_; rintro e w6 ⟨⟨ax, cx, rfl, hownx⟩, hb6⟩; have y0 := kept_cell hb6 x0; have y1 := kept_cell hb6 x1; have y2 := x2.on hz2 hb6; have slx := (SlU.of_own hownx).2; (try have slx' := slx.kept hb6 (Nat.le_refl _)); (try have sly' := sly.kept hb6 (Nat.le_refl _))))
            | (go_at_call 13; with_reducible show Calls _ _ #[.agg #[.slice a2 _ ca2]] _ _; go_must (obtain ⟨x0, x1, x2⟩ := ‹_ ∧ _›; refine (list_next a2 _ ca2 A _ hWl.out.symm (HQ2.out.kept x2.mid (Nat.le_refl _)) (by rw [hWl.out]; omega)).mono ?_; rintro e w6 ⟨⟨ay, cy, rfl, howny⟩, hb6⟩; have y0 := kept_cell hb6 x0; have y1 := kept_cell hb6 x1; have y2 := x2.on hz2 hb6; have sly := (SlU.of_own howny).2; (try have slx' := slx.kept hb6 (Nat.le_refl _)); (try have sly' := sly.kept hb6 (Nat.le_refl _)))))
          obtain ⟨u1, u2, hon⟩ := ‹_ ∧ _›
          have SX := Lib.hid slx'
          have SY := Lib.hid sly
          clear slx' sly
          go_wp2_with fail
          refine (thread (wakes_any _) w6.heap.size w6 (by go_grown) (by go_grown)).mono ?_
          rintro e w7 ⟨rfl, hX7, -, -, -, -⟩
          go_wp2_with fail
          have hneq := fun k d a b w => upd_neq_same k d a b w
          have hgrd := fun op x y xs ys w => upd_guard op x y xs ys w
          have SX7 := Lib.hid (SX.out.kept hX7 (Nat.le_refl _))
          have SY7 := Lib.hid (SY.out.kept hX7 (Nat.le_refl _))
          have v1 := kept_cell hX7 u1
          have v2 := kept_cell hX7 u2
          have hon7 := hon.on hz2 hX7
          have kk0 := (cell_below hon7.mid (by have := hB.size; omega) 0).trans k0
          have kk1 := (cell_below hon7.mid (by have := hB.size; omega) 1).trans k1
          have HP7 := Lib.hid (HP2.out.kept hon7.mid (Nat.le_refl _))
          have hlow := hon7.low
          clear hX7 u1 u2 hon SX SY k0 k1 hon7 HP2 HQ2
          go_loopw [102] (fun i wr => ∃ k : Nat, i = .int .i64 k ∧ k ≤ F.length ∧ Below w7.heap.size w7 wr) (fun i _ => F.length - (intOf i).toNat)
          case atStart => exact ⟨0, rfl, Nat.zero_le _, Below.refl _ _⟩
          case round =>
            obtain ⟨k, rfl, hk, hB7⟩ := hrel
            have hk0 : (0 : Int) ≤ (k : Int) := Int.natCast_nonneg _
            by_cases hkF : k < F.length
            · have hk1 : (k : Int) < (F.length : Int) := by omega
              obtain ⟨bx, ox, b', o', u, hu, rfl, rfl, ⟨t0, t1, t2, t3⟩, r0, r1, r2, r3⟩ := pair_at (SX7.out.kept hB7 (Nat.le_refl _)) (SY7.out.kept hB7 (Nat.le_refl _)) k (by rw [hWl.out]; exact hkF)
              rcases k with _ | q
              · rw [show ((0 : Nat) : Int) = 0 from rfl] at hk1 ⊢
                simp only [Nat.zero_mul, Nat.add_zero] at t0 t1 t2 t3 r0 r1 r2 r3
                clear hk0
                go_wp2_with fail
                go_quiet (fail)
                go_wp2_with fail
                go_roundw
                (case rel => exact (⟨1, by go_num, by omega, below_drewN hB7 _⟩))
                (case measure => first | (simp [intOf]; done) | (simp [intOf]; omega))
              · obtain ⟨bz, oz, ez, -, -, s1, -, -⟩ := (SX7.out.kept hB7 (Nat.le_refl _)).cells4 q (by rw [hWl.out]; omega)
                simp only [Option.some.injEq, Addr.mk.injEq, and_true] at ez
                obtain ⟨rfl, rfl⟩ := ez
                have hlt := hWok.1.lt (show q < q + 1 by omega) (by rw [hWl.out]; exact hkF)
                rw [hu] at hlt
                generalize A[q]'(by rw [hWl.out]; omega) = z at *
                go_wp2_with fail
                go_quiet (fail)
                go_wp2_with fail
                go_roundw
                (case rel => exact (⟨q + 2, by go_num, by omega, below_drewN hB7 _⟩))
                (case measure => first | (simp [intOf]; done) | (simp [intOf]; omega))
            · obtain rfl : k = F.length := by omega
              have kk0' := kept_cell hB7 kk0
              have kk1' := kept_cell hB7 kk1
              have v1' := kept_cell hB7 v1
              have HP8 := Lib.hid (HP7.out.kept hB7 (Nat.le_refl _))
              have HX8 := Lib.hid (SX7.out.kept hB7 (Nat.le_refl _))
              have hlow8 := hlow.trans (hB7.mono hlow.size)
              have hz8 : w.heap.size ≤ wr.heap.size := hlow8.size
              obtain ⟨lo, hi', hmn, hmx', hle⟩ := run_two s0 s1
              clear kk0 kk1 v1 HP7 SX7 SY7 hB7 hlow hneq hgrd
              go_wp2_with fail
              go_region
              all_goals (
                by_cases hlo : lo = []
                · subst hlo
                  go_wp2_with fail
                  go_ret
                  exact ⟨rfl, by go_grown⟩
                · have hemp : lo.isEmpty = false := by cases lo <;> simp at hlo ⊢
                  have HPd := HP8.out.kept (below_drew' (Below.refl wr.heap.size wr)) (Nat.le_refl _)
                  have HXd := Lib.hid (HX8.out.kept (below_drew' (Below.refl wr.heap.size wr)) (Nat.le_refl _))
                  go_wp2_with fail
                  refine (thread (cut_first _ _ _ A lo _ hWl.out.symm HPd (by rw [hWl.out]; omega) hWok.1 hlo) wr.heap.size wr (by go_grown) (by go_grown)).mono ?_
                  rintro e w9 ⟨⟨a9, b9, c9, d9, P1, P2, rfl, hA12, hP2, hb1, hb2⟩, hX9, -, -, hs9, -⟩
                  have HX9 := Lib.hid (HX8.out.kept hX9 (Nat.le_refl _))
                  have H1 := Lib.hid hb1
                  have H2 := Lib.hid hb2
                  have HA12 := Lib.hid hA12
                  have HP2' := Lib.hid hP2
                  have hlow9 := hlow8.trans (hX9.mono hz8)
                  clear hb1 hb2 hA12 hP2 HPd HXd HX8 HP8 hX9 hs9 hlow8 kk0' kk1' v1' hmn hmx'
                  go_wp2_with fail
                  refine (thread (cut_second _ _ _ A P2 lo hi' _ HP2'.out rfl (H2.out.kept (by go_grown) (Nat.le_refl _)) (by rw [hWl.out]; omega) hWok.1) w9.heap.size w9 (by go_grown) (by go_grown)).mono ?_
                  rintro e w11 ⟨⟨a11, b11, c11, d11, Q1, Q2, rfl, hP12, hb1, hb2⟩, hX11, hk11, hf11, hs11, -⟩
                  have m1 := (hk11 w9.heap.size 0 (by simp; omega)).trans (by simp [go_sem]; rfl)
                  have m2 := (hk11 (w9.heap.size + 1) 0 (by simp)).trans (by simp [go_sem]; rfl)
                  have hs11' : w9.heap.size + 1 < w11.heap.size := by simp at hs11; omega
                  have HX11 := Lib.hid (HX9.out.kept hX11 (Nat.le_refl _))
                  have H1' := Lib.hid (H1.out.kept hX11 (Nat.le_refl _))
                  have H2' := Lib.hid (H2.out.kept hX11 (Nat.le_refl _))
                  have H3 := Lib.hid hb1
                  have H4 := Lib.hid hb2
                  have HP12 := Lib.hid hP12
                  have hlow11 := hlow9.trans (hX11.mono hlow9.size)
                  clear hb1 hb2 hP12 HX9 H1 H2 hX11 hk11 hf11 hs11 hlow9 HP2'
                  have m1' : ((w11.alloc (.cells #[.slice a11 Q1.length c11] 36)).alloc (.cells #[.slice b11 Q2.length d11] 36)).cell? ⟨w9.heap.size, 0, none⟩ = some (.slice a9 P1.length c9) := cell_past _ (cell_past _ m1)
                  have m2' : ((w11.alloc (.cells #[.slice a11 Q1.length c11] 36)).alloc (.cells #[.slice b11 Q2.length d11] 36)).cell? ⟨w9.heap.size + 1, 0, none⟩ = some (.slice b9 P2.length d9) := cell_past _ (cell_past _ m2)
                  have hz11 : w.heap.size ≤ w11.heap.size := hlow11.size
                  have hl1 : P1.length + P2.length = F.length := by rw [← hWl.out, HA12.out, List.length_append]
                  have hl2 : P2.length = Q1.length + Q2.length := by rw [HP12.out, List.length_append]
                  have HL1 := Lib.hid hl1
                  have HL2 := Lib.hid hl2
                  clear hl1 hl2
                  have hz11 : w.heap.size ≤ w11.heap.size := hlow11.size
                  have hl1 : P1.length + P2.length = F.length := by rw [← hWl.out, HA12.out, List.length_append]
                  have hl2 : P2.length = Q1.length + Q2.length := by rw [HP12.out, List.length_append]
                  have HL1 := Lib.hid hl1
                  have HL2 := Lib.hid hl2
                  clear hl1 hl2
                  have hz11 : w.heap.size ≤ w11.heap.size := hlow11.size
                  have hl1 : P1.length + P2.length = F.length := by rw [← hWl.out, HA12.out, List.length_append]
                  have hl2 : P2.length = Q1.length + Q2.length := by rw [HP12.out, List.length_append]
                  have HL1 := Lib.hid hl1
                  have HL2 := Lib.hid hl2
                  clear hl1 hl2
                  have hz11 : w.heap.size ≤ w11.heap.size := hlow11.size
                  have hl1 : P1.length + P2.length = F.length := by rw [← hWl.out, HA12.out, List.length_append]
                  have hl2 : P2.length = Q1.length + Q2.length := by rw [HP12.out, List.length_append]
                  have HL1 := Lib.hid hl1
                  have HL2 := Lib.hid hl2
                  clear hl1 hl2
                  have hz11 : w.heap.size ≤ w11.heap.size := hlow11.size
                  have hl1 : P1.length + P2.length = F.length := by rw [← hWl.out, HA12.out, List.length_append]
                  have hl2 : P2.length = Q1.length + Q2.length := by rw [HP12.out, List.length_append]
                  have HL1 := Lib.hid hl1
                  have HL2 := Lib.hid hl2
                  clear hl1 hl2
                  have hz11 : w.heap.size ≤ w11.heap.size := hlow11.size
                  have hl1 : P1.length + P2.length = F.length := by rw [← hWl.out, HA12.out, List.length_append]
                  have hl2 : P2.length = Q1.length + Q2.length := by rw [HP12.out, List.length_append]
                  have HL1 := Lib.hid hl1
                  have HL2 := Lib.hid hl2
                  clear hl1 hl2
                  have hz11 : w.heap.size ≤ w11.heap.size := hlow11.size
                  have hl1 : P1.length + P2.length = F.length := by rw [← hWl.out, HA12.out, List.length_append]
                  have hl2 : P2.length = Q1.length + Q2.length := by rw [HP12.out, List.length_append]
                  have HL1 := Lib.hid hl1
                  have HL2 := Lib.hid hl2
                  clear hl1 hl2
                  by_cases hlh : lo = hi'
                  · subst hlh
                    have HN2 := Lib.hid (show BoxU w11 (.agg #[.slice none 0 0]) ([] : List Upd) from ⟨_, rfl, SlU.nil _⟩)
                    go_wp2_with fail
                    have hl1 := HL1.out
                    have b1 : P1.length ≤ 20 := by omega
                    have b3 : P2.length ≤ 20 := by omega
                    clear hl1
                    go_region_held3 (fun w' => w'.cell? ⟨w9.heap.size, 0, none⟩ = some (.slice a9 P1.length c9) ∧ w'.cell? ⟨w11.heap.size, 0, none⟩ = some (.slice none 0 0) ∧ w'.cell? ⟨w11.heap.size + 1, 0, none⟩ = some (.slice b9 P2.length d9) ∧ JoinAt w w11 w')
                      (first | assumption | (refine ⟨cell_past _ (cell_past _ m1), by simp, by simp, ⟨by go_grown, by go_grown⟩⟩) | exact ⟨y0, y1, y2, y3⟩)
                      (first
                        | (go_at_call 13; with_reducible show Calls _ _ #[.agg #[.slice a9 _ c9]] _ _; go_must (obtain ⟨x0, x1, x2, x3⟩ := ‹_ ∧ _›; refine (list_next a9 (P1.length) c9 P1 _ rfl (H1'.out.kept x3.mid (Nat.le_refl _)) (by first | omega | simp)).mono ?_; rintro e w6 ⟨⟨e1, f1, rfl, hown⟩, hb6⟩; have ow1 := own_base (B' := w11.heap.size + 2) hown (join_base x2); have y0 := kept_cell hb6 x0; have y1 := kept_cell hb6 x1; have y2 := kept_cell hb6 x2; have y3 := x3.on hz11 hb6))
                        | (go_at_call 13; with_reducible show Calls _ _ #[.agg #[.slice none _ 0]] _ _; go_must (obtain ⟨x0, x1, x2, x3⟩ := ‹_ ∧ _›; refine (list_next none (0) 0 ([] : List Upd) _ rfl (HN2.out.kept x3.mid (Nat.le_refl _)) (by first | omega | simp)).mono ?_; rintro e w6 ⟨⟨e2, f2, rfl, hown⟩, hb6⟩; have ow2 := own_base (B' := w11.heap.size + 2) hown (join_base x2); have y0 := kept_cell hb6 x0; have y1 := kept_cell hb6 x1; have y2 := kept_cell hb6 x2; have y3 := x3.on hz11 hb6; have ow1 := own_below ow1 hb6))
                        | (go_at_call 13; with_reducible show Calls _ _ #[.agg #[.slice b9 _ d9]] _ _; go_must (obtain ⟨x0, x1, x2, x3⟩ := ‹_ ∧ _›; refine (list_next b9 (P2.length) d9 P2 _ rfl (H2'.out.kept x3.mid (Nat.le_refl _)) (by first | omega | simp)).mono ?_; rintro e w6 ⟨⟨e3, f3, rfl, hown⟩, hb6⟩; (try have ap3 := own_apart ow1 hown); have ow3 := own_base (B' := w11.heap.size + 2) hown (join_base x2); have y0 := kept_cell hb6 x0; have y1 := kept_cell hb6 x1; have y2 := kept_cell hb6 x2; have y3 := x3.on hz11 hb6; (try have ow1 := own_below ow1 hb6); (try have ow2 := own_below ow2 hb6); (try have ow12 := own_below ow12 hb6)))
                        | (obtain ⟨x0, x1, x2, x3⟩ := ‹_ ∧ _ ∧ _ ∧ JoinAt w w11 _›; refine step_append_src rfl (.tmp 164) (.tmp 166) 24 rfl (w11.heap.size + 2) 31 i0 (.agg #[.int .u8 0, .string ByteArray.empty, .string ByteArray.empty, .int .u64 0]) 4 48 Try.underlying24 hi hz0 hz1 hzb rfl (by decide) _ (P1.length) _ rfl ow1 _ (0) _ (cellsU ([] : List Upd)) rfl (cellsU_len _) (src_of (SlU.of_own ow2).2).2.1 (src_of (SlU.of_own ow2).2).2.2 (cellsU_oneCell _) (by unfold maxLen; omega) (by omega) (join_base x2) ?_; intro v' w7 hown' hgrow _; have y0 := join_cell ow1 hgrow (by have := x3.mid.size; omega) x0; have y1 := join_cell ow1 hgrow (by omega) x1; have y2 := join_cell ow1 hgrow (by omega) x2; have y3 := x3.grown hz11 hgrow (join_low ow1 (by omega)); obtain ⟨g12, c12, e'⟩ := own_form hown'; subst e'; have ow12 := hown'; (try have ow3 := ow3.kept hgrow ap3))
                        | (obtain ⟨x0, x1, x2, x3⟩ := ‹_ ∧ _ ∧ _ ∧ JoinAt w w11 _›; refine step_append_src rfl (.tmp 167) (.tmp 169) 24 rfl (w11.heap.size + 2) 31 i0 (.agg #[.int .u8 0, .string ByteArray.empty, .string ByteArray.empty, .int .u64 0]) 4 48 Try.underlying24 hi hz0 hz1 hzb rfl (by decide) _ (P1.length + 0) _ rfl ow12 _ (P2.length) _ (cellsU P2) rfl (cellsU_len _) (src_of (SlU.of_own ow3).2).2.1 (src_of (SlU.of_own ow3).2).2.2 (cellsU_oneCell _) (by unfold maxLen; omega) (by omega) (join_base x2) ?_; intro v' w7 hown' hgrow _; have y0 := join_cell ow12 hgrow (by have := x3.mid.size; omega) x0; have y1 := join_cell ow12 hgrow (by omega) x1; have y2 := join_cell ow12 hgrow (by omega) x2; have y3 := x3.grown hz11 hgrow (join_low ow12 (by omega)); obtain ⟨gz, cz, e'⟩ := own_form hown'; subst e'; have owz := hown'))
                    have hA := (show P1 ++ [] ++ P2 = A by rw [List.append_nil, ← HA12.out])
                    have hlen := congrArg List.length hA
                    rw [List.length_append, List.length_append, hWl.out] at hlen
                    rw [← cellsU_append, ← cellsU_append, hA] at owz
                    (try simp only [List.length_nil] at hlen)
                    rw [hlen] at owz ⊢
                    have HZ := Lib.hid (SlU.of_own owz).2
                    have HX := Lib.hid (HX11.out.kept y3.mid (Nat.le_refl _))
                    have hlowz := y3.low
                    have hneq := fun k d a b w => upd_neq_same k d a b w
                    have hgrd := fun op x y xs ys w => upd_guard op x y xs ys w
                    clear owz hown' hgrow y0 y1 y2 y3 x0 x1 x2 x3 HX11 hlow11 HA12 HP12 H1' H2' H3 H4 hA hlen
                    have hsum := HL1.out
                    go_wp2_with fail
                    clear hsum
                    go_loopw [178] (fun i wr => ∃ k : Nat, i = .int .i64 k ∧ k ≤ F.length ∧ Below w7.heap.size w7 wr) (fun i _ => F.length - (intOf i).toNat)
                    case atStart => exact ⟨0, rfl, Nat.zero_le _, Below.refl _ _⟩
                    case round =>
                      obtain ⟨k, rfl, hk, hB7⟩ := hrel
                      have hk0 : (0 : Int) ≤ (k : Int) := Int.natCast_nonneg _
                      by_cases hkF : k < F.length
                      · have hk1 : (k : Int) < (F.length : Int) := by omega
                        have hkz : (k : Int) < (P1.length : Int) + (P2.length : Int) := by have h1 := HL1.out; have h2 := HL2.out; omega
                        obtain ⟨bx, ox, b', o', u, hu, rfl, rfl, ⟨t0, t1, t2, t3⟩, r0, r1, r2, r3⟩ := pair_at (HZ.out.kept hB7 (Nat.le_refl _)) (HX.out.kept hB7 (Nat.le_refl _)) k (by rw [hWl.out]; exact hkF)
                        go_wp2_with fail
                        go_quiet (fail)
                        go_wp2_with fail
                        go_roundw
                        (case rel => exact (⟨k + 1, by go_num, by omega, below_drewN hB7 _⟩))
                        (case measure => first | (simp [intOf]; done) | (simp [intOf]; omega))
                      · obtain rfl : k = F.length := by omega
                        go_wp2_with fail
                        go_ret
                        exact ⟨rfl, hlowz.trans (hB7.mono hlowz.size)⟩
                  · have hq : (lo == hi') = false := by simp [hlh]
                    go_wp2_with fail
                    have hl1 := HL1.out
                    have hl2 := HL2.out
                    have b1 : P1.length ≤ 20 := by omega
                    have b2 : Q1.length ≤ 20 := by omega
                    have b3 : Q2.length ≤ 20 := by omega
                    clear hl1 hl2
                    go_region_held3 (fun w' => w'.cell? ⟨w9.heap.size, 0, none⟩ = some (.slice a9 P1.length c9) ∧ w'.cell? ⟨w11.heap.size, 0, none⟩ = some (.slice a11 Q1.length c11) ∧ w'.cell? ⟨w11.heap.size + 1, 0, none⟩ = some (.slice b11 Q2.length d11) ∧ JoinAt w w11 w')
                      (first | assumption | (refine ⟨cell_past _ (cell_past _ m1), by simp, by simp, ⟨by go_grown, by go_grown⟩⟩) | exact ⟨y0, y1, y2, y3⟩)
                      (first
                        | (go_at_call 13; with_reducible show Calls _ _ #[.agg #[.slice a9 _ c9]] _ _; go_must (obtain ⟨x0, x1, x2, x3⟩ := ‹_ ∧ _›; refine (list_next a9 (P1.length) c9 P1 _ rfl (H1'.out.kept x3.mid (Nat.le_refl _)) (by first | omega | simp)).mono ?_; rintro e w6 ⟨⟨e1, f1, rfl, hown⟩, hb6⟩; have ow1 := own_base (B' := w11.heap.size + 2) hown (join_base x2); have y0 := kept_cell hb6 x0; have y1 := kept_cell hb6 x1; have y2 := kept_cell hb6 x2; have y3 := x3.on hz11 hb6))
                        | (go_at_call 13; with_reducible show Calls _ _ #[.agg #[.slice a11 _ c11]] _ _; go_must (obtain ⟨x0, x1, x2, x3⟩ := ‹_ ∧ _›; refine (list_next a11 (Q1.length) c11 Q1 _ rfl (H3.out.kept x3.mid (Nat.le_refl _)) (by first | omega | simp)).mono ?_; rintro e w6 ⟨⟨e2, f2, rfl, hown⟩, hb6⟩; have ow2 := own_base (B' := w11.heap.size + 2) hown (join_base x2); have y0 := kept_cell hb6 x0; have y1 := kept_cell hb6 x1; have y2 := kept_cell hb6 x2; have y3 := x3.on hz11 hb6; have ow1 := own_below ow1 hb6))
                        | (go_at_call 13; with_reducible show Calls _ _ #[.agg #[.slice b11 _ d11]] _ _; go_must (obtain ⟨x0, x1, x2, x3⟩ := ‹_ ∧ _›; refine (list_next b11 (Q2.length) d11 Q2 _ rfl (H4.out.kept x3.mid (Nat.le_refl _)) (by first | omega | simp)).mono ?_; rintro e w6 ⟨⟨e3, f3, rfl, hown⟩, hb6⟩; (try have ap3 := own_apart ow1 hown); have ow3 := own_base (B' := w11.heap.size + 2) hown (join_base x2); have y0 := kept_cell hb6 x0; have y1 := kept_cell hb6 x1; have y2 := kept_cell hb6 x2; have y3 := x3.on hz11 hb6; (try have ow1 := own_below ow1 hb6); (try have ow2 := own_below ow2 hb6); (try have ow12 := own_below ow12 hb6)))
                        | (obtain ⟨x0, x1, x2, x3⟩ := ‹_ ∧ _ ∧ _ ∧ JoinAt w w11 _›; refine step_append_src rfl (.tmp 164) (.tmp 166) 24 rfl (w11.heap.size + 2) 31 i0 (.agg #[.int .u8 0, .string ByteArray.empty, .string ByteArray.empty, .int .u64 0]) 4 48 Try.underlying24 hi hz0 hz1 hzb rfl (by decide) _ (P1.length) _ rfl ow1 _ (Q1.length) _ (cellsU Q1) rfl (cellsU_len _) (src_of (SlU.of_own ow2).2).2.1 (src_of (SlU.of_own ow2).2).2.2 (cellsU_oneCell _) (by unfold maxLen; omega) (by omega) (join_base x2) ?_; intro v' w7 hown' hgrow _; have y0 := join_cell ow1 hgrow (by have := x3.mid.size; omega) x0; have y1 := join_cell ow1 hgrow (by omega) x1; have y2 := join_cell ow1 hgrow (by omega) x2; have y3 := x3.grown hz11 hgrow (join_low ow1 (by omega)); obtain ⟨g12, c12, e'⟩ := own_form hown'; subst e'; have ow12 := hown'; (try have ow3 := ow3.kept hgrow ap3))
                        | (obtain ⟨x0, x1, x2, x3⟩ := ‹_ ∧ _ ∧ _ ∧ JoinAt w w11 _›; refine step_append_src rfl (.tmp 167) (.tmp 169) 24 rfl (w11.heap.size + 2) 31 i0 (.agg #[.int .u8 0, .string ByteArray.empty, .string ByteArray.empty, .int .u64 0]) 4 48 Try.underlying24 hi hz0 hz1 hzb rfl (by decide) _ (P1.length + Q1.length) _ rfl ow12 _ (Q2.length) _ (cellsU Q2) rfl (cellsU_len _) (src_of (SlU.of_own ow3).2).2.1 (src_of (SlU.of_own ow3).2).2.2 (cellsU_oneCell _) (by unfold maxLen; omega) (by omega) (join_base x2) ?_; intro v' w7 hown' hgrow _; have y0 := join_cell ow12 hgrow (by have := x3.mid.size; omega) x0; have y1 := join_cell ow12 hgrow (by omega) x1; have y2 := join_cell ow12 hgrow (by omega) x2; have y3 := x3.grown hz11 hgrow (join_low ow12 (by omega)); obtain ⟨gz, cz, e'⟩ := own_form hown'; subst e'; have owz := hown'))
                    have hA := (show P1 ++ Q1 ++ Q2 = A by rw [List.append_assoc, ← HP12.out, ← HA12.out])
                    have hlen := congrArg List.length hA
                    rw [List.length_append, List.length_append, hWl.out] at hlen
                    rw [← cellsU_append, ← cellsU_append, hA] at owz
                    (try simp only [List.length_nil] at hlen)
                    rw [hlen] at owz ⊢
                    have HZ := Lib.hid (SlU.of_own owz).2
                    have HX := Lib.hid (HX11.out.kept y3.mid (Nat.le_refl _))
                    have hlowz := y3.low
                    have hneq := fun k d a b w => upd_neq_same k d a b w
                    have hgrd := fun op x y xs ys w => upd_guard op x y xs ys w
                    clear owz hown' hgrow y0 y1 y2 y3 x0 x1 x2 x3 HX11 hlow11 HA12 HP12 H1' H2' H3 H4 hA hlen
                    have hsum := HL1.out
                    go_wp2_with fail
                    clear hsum
                    go_loopw [178] (fun i wr => ∃ k : Nat, i = .int .i64 k ∧ k ≤ F.length ∧ Below w7.heap.size w7 wr) (fun i _ => F.length - (intOf i).toNat)
                    case atStart => exact ⟨0, rfl, Nat.zero_le _, Below.refl _ _⟩
                    case round =>
                      obtain ⟨k, rfl, hk, hB7⟩ := hrel
                      have hk0 : (0 : Int) ≤ (k : Int) := Int.natCast_nonneg _
                      by_cases hkF : k < F.length
                      · have hk1 : (k : Int) < (F.length : Int) := by omega
                        have hkz : (k : Int) < (P1.length : Int) + (Q1.length : Int) + (Q2.length : Int) := by have h1 := HL1.out; have h2 := HL2.out; omega
                        obtain ⟨bx, ox, b', o', u, hu, rfl, rfl, ⟨t0, t1, t2, t3⟩, r0, r1, r2, r3⟩ := pair_at (HZ.out.kept hB7 (Nat.le_refl _)) (HX.out.kept hB7 (Nat.le_refl _)) k (by rw [hWl.out]; exact hkF)
                        go_wp2_with fail
                        go_quiet (fail)
                        go_wp2_with fail
                        go_roundw
                        (case rel => exact (⟨k + 1, by go_num, by omega, below_drewN hB7 _⟩))
                        (case measure => first | (simp [intOf]; done) | (simp [intOf]; omega))
                      · obtain rfl : k = F.length := by omega
                        go_wp2_with fail
                        go_ret
                        exact ⟨rfl, hlowz.trans (hB7.mono hlowz.size)⟩)

end Go.Proofs.Ytcjeonamebnpfaa
