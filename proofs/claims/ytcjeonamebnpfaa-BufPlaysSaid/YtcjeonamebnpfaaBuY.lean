/-
  The walk of BufPlays.
-/
import Derived.Test.YtcjeonamebnpfaaBuQ
import Derived.Test.YtcjeonamebnpfaaOpen
import Derived.Deep.DeepCutAuto
namespace Go.Proofs.Ytcjeonamebnpfaa
open Go.RowKit
attribute [local go_sem ↓] Go.wp_at_zero Go.wp_at_succ

theorem elemK : Try.prog.elem 22 = 28 := by kernel_rfl
theorem underK : Try.prog.underlying 22 = some (.slice (Try.prog.elem 22)) := by rw [elemK]; exact Try.underlying22
theorem sizeElemK (w : World) : (sizeOf (Try.prog.elem 22)).run Try.prog w = .ok 4 w := by kernel_rfl
theorem cut_itemsK (ao : Option Addr) (n c i : Nat) (hin : i ≤ n) (hnc : n ≤ c) (w : World) : (Instr.slice 22 (.slice ao n c) none (some (.int .i64 (i : Int))) none).run Try.prog w = .ok (.slice ao i c) w := by
  rw [run_slice_h w 22 ao n c underK .i64 i (by omega) (by omega)]
  rw [sizeElemK]
  have e : ao.map (·.add 0) = ao := by cases ao <;> simp [Addr.add]
  simp [Result.andThen, sliced, e]

set_option maxRecDepth 100000 in
set_option maxHeartbeats 8000000 in
theorem bufPlays_walk (v : Value) (l : List Upd) (low high : List UInt8) (w : World) (hl : ArgUpds w v l) :
    Calls Try.prog 9 #[v, .string (S low), .string (S high)] w fun e w' => e = .returned (.bool true) ∧ Below w.heap.size w w' := by
  have hmin := fun ts t a b w => run_tmin (P := Try.prog) ts t a b w
  have hm : tmin (l.length : Int) 25 = ((min l.length 25 : Nat) : Int) := tmin_nat _ 25
  obtain ⟨hform, hwf, hsize⟩ := hl
  obtain ⟨ao, c, rfl, hx, hc1, hc2, hn⟩ := hform
  generalize hM : min l.length 25 = m at *
  have hmx : m ≤ l.length := by omega
  have hm20 : m ≤ 25 := by omega
  have hcut := fun W => cut_itemsK ao l.length c m hmx hc1 W
  clear hn hc2
  go_enter Try.func9, Try.ntmps9
  go_wp2_with fail
  refine (thread (wakes_any _) w.heap.size w (by go_grown) (by go_grown)).mono ?_
  rintro e w1 ⟨rfl, hB1, hk1, hf1, hs1, hz1⟩
  have hu1 : w.heap.size < w1.heap.size := by simp at hs1; omega
  have hI1 : InBox w.heap.size [] w1 := ⟨⟨none, 0, (hk1 w.heap.size 0 (by simp)).trans (by simp), ⟨_, rfl, SlU.nil _⟩⟩, (hf1 w.heap.size 0 (by simp)).trans (by simp), hu1⟩
  clear hk1 hf1 hs1
  go_wp2_with fail
  go_loopw [33, 8] (fun i mv wr => ∃ (k : Nat) (us : List Upd), i = .int .i64 k ∧ k ≤ m ∧ us.length = k ∧ (∀ u ∈ us, Tm u) ∧ InBox w.heap.size (withAll us) wr ∧ (∃ am cm, mv = .slice am (withAll us).length cm ∧ BoxU wr (.agg #[.slice am (withAll us).length cm]) (withAll us)) ∧ Below w.heap.size w wr) (fun i _ _ => m - (intOf i).toNat)
  case atStart => exact ⟨0, [], rfl, Nat.zero_le _, rfl, (fun u hu => by simp at hu), hI1, ⟨none, 0, rfl, ⟨_, rfl, SlU.nil _⟩⟩, hB1⟩
  case round =>
    obtain ⟨k, us, rfl, hk, hus, huw, hI, ⟨am, cm, rfl, hM'⟩, hB⟩ := hrel
    have hk0 : (0 : Int) ≤ (k : Int) := Int.natCast_nonneg _
    have HUW := Lib.hid huw
    have HI := Lib.hid hI
    have HM := Lib.hid hM'
    have HUS := Lib.hid hus
    obtain ⟨o1, o2, o3⟩ := withAll_ok us (tm_ok huw)
    have hol : (withAll us).length ≤ 25 := by omega
    have HR := Lib.hid o1
    have hul : us.length ≤ 25 := by omega
    clear hI hM' huw o1 o2 o3
    by_cases hkm : k < m
    · have hk1 : (k : Int) < (m : Int) := by omega
      have hkl : k < l.length := by omega
      obtain ⟨hw1, hw2⟩ := hwf _ (List.getElem_mem hkl)
      obtain ⟨hu1', hu2⟩ := hsize _ (List.getElem_mem hkl)
      obtain ⟨b, off, rfl, hb, t0, t1, t2, t3⟩ := SlAt.cells4 hx k hkl
      have q0 := (cell_below hB hb _).trans t0
      have q1 := (cell_below hB hb _).trans t1
      have q2 := (cell_below hB hb _).trans t2
      have q3 := (cell_below hB hb _).trans t3
      clear t0 t1 t2 t3 hus
      generalize l[k] = u at *
      go_wp2_with fail
      refine (thread (tame_upd u _ hw1 hu1' hu2) wr.heap.size wr (by go_grown) (by go_grown)).mono ?_
      rintro e w2 ⟨⟨T, hT, rfl⟩, hX2, -, -, hs2, hz2⟩
      have hTm := tame_tm u ⟨hw1, hw2⟩
      rw [hT] at hTm
      have HI2 := Lib.hid (HI.out.on hX2)
      have HM2 := Lib.hid (HM.out.kept hX2 (Nat.le_refl _))
      have hB2 := hB.trans (hX2.mono hB.size)
      have HT := Lib.hid hTm
      have HRW := Lib.hid (fun W h => refWith_next am _ cm us T W rfl h (by omega) HUW.out hTm)
      have HW := Lib.hid (fun a n c W hn h => with_next a n c us T W hn h (by omega) (tm_ok HUW.out) hTm.wf)
      obtain ⟨g1, -, g3⟩ := withAll_ok (us ++ [T]) (tm_ok (fun x hx => (List.mem_append.1 hx).elim (HUW.out x) (fun h => by rw [List.mem_singleton] at h; rw [h]; exact hTm)))
      rw [List.length_append, List.length_singleton] at g3
      have hGl : (withAll (us ++ [T])).length ≤ 26 := by omega
      have HGR := Lib.hid g1
      clear HI HM hX2 q0 q1 q2 q3 hs2 hT hTm g1 g3
      generalize hF : withAll us = F at *
      generalize hG : withAll (us ++ [T]) = G at *
      have HF := Lib.hid hF
      have HG := Lib.hid hG
      clear hF hG hul
      have hsz2 : w.heap.size < w2.heap.size := by have := HI2.out.lt; omega
      go_wp2_with fail
      refine (thread (HRW.out _ (HM2.out.kept (by go_grown) (Nat.le_refl _))) w2.heap.size w2 (by go_grown) (by go_grown)).mono ?_
      rintro e w3 ⟨⟨nm, nc, rfl, hN3⟩, hX3, hk3, -, hs3, hz3⟩
      have hs3' : w2.heap.size < w3.heap.size := by simp at hs3; omega
      have e0 : w3.cell? ⟨w2.heap.size, 0, none⟩ = some (.int .u8 T.kind) := (hk3 w2.heap.size 0 (by simp; omega)).trans (by simp)
      have e1 : w3.cell? ⟨w2.heap.size, 1, none⟩ = some (.string (S T.key)) := (hk3 w2.heap.size 1 (by simp; omega)).trans (by simp)
      have e2 : w3.cell? ⟨w2.heap.size, 2, none⟩ = some (.string (S T.val)) := (hk3 w2.heap.size 2 (by simp; omega)).trans (by simp)
      have e3 : w3.cell? ⟨w2.heap.size, 3, none⟩ = some (.int .u64 T.delta) := (hk3 w2.heap.size 3 (by simp; omega)).trans (by simp)
      have hI3 := HI2.out.on hX3
      have HI3 := Lib.hid hI3
      obtain ⟨⟨a, ca, p1, p2⟩, pf, pl⟩ := hI3
      have HP2 := Lib.hid p2
      have HM3 := Lib.hid (HM2.out.kept hX3 (Nat.le_refl _))
      have HN3 := Lib.hid hN3
      have hB3 := hB2.trans (hX3.mono hB2.size)
      clear hk3 hs3 hN3 p2 hX3 HI2 HM2 HRW
      go_wp2_with fail
      refine (thread (HW.out a _ ca w3 rfl HP2.out) w3.heap.size w3 (by go_grown) (by go_grown)).mono ?_
      rintro e w4 ⟨⟨ga, gc, rfl, hb4⟩, hX4, -, -, -, hz4⟩
      have p4 := kept_cell hX4 p1
      have HI4 := Lib.hid (HI3.out.on hX4)
      have HM4 := Lib.hid (HM3.out.kept hX4 (Nat.le_refl _))
      have HN4 := Lib.hid (HN3.out.kept hX4 (Nat.le_refl _))
      have HP4 := Lib.hid (HP2.out.kept hX4 (Nat.le_refl _))
      have HB4 := Lib.hid hb4
      have hB4 := hB3.trans (hX4.mono hB3.size)
      clear HW hb4 hX4 HI3 HM3 HN3 HP2 e0 e1 e2 e3 p1 pf pl
      have p5 := cell_past (.cells #[.slice ga G.length gc] 36) p4
      go_wp2_with fail
      refine (thread (sameU_any a F.length ca am cm F _ rfl (HP4.out.kept (by go_grown) (Nat.le_refl _)) (HM4.out.slice.kept (by go_grown) (Nat.le_refl _)) (by omega) HR.out) w4.heap.size w4 (by go_grown) (by go_grown)).mono ?_
      rintro e w5 ⟨rfl, hX5, hk5, -, hs5, hz5⟩
      have hs5' : w4.heap.size < w5.heap.size := by simp at hs5; omega
      have g0 : w5.cell? ⟨w4.heap.size, 0, none⟩ = some (.slice ga G.length gc) := (hk5 w4.heap.size 0 (by simp)).trans (by simp)
      have HI5 := Lib.hid (HI4.out.on hX5)
      have HN5 := Lib.hid (HN4.out.kept hX5 (Nat.le_refl _))
      have HB5 := Lib.hid (HB4.out.kept hX5 (Nat.le_refl _))
      have hB5 := hB4.trans (hX5.mono hB4.size)
      clear hk5 hs5 hX5 HI4 HN4 HB4 HM4 HP4 p4 p5
      go_wp2_with fail
      refine (thread (sameU_any ga G.length gc nm nc G _ rfl HB5.out HN5.out.slice (by omega) HGR.out) w5.heap.size w5 (by go_grown) (by go_grown)).mono ?_
      rintro e w6 ⟨rfl, hX6, -, -, -, hz6⟩
      have g1 := kept_cell hX6 g0
      have HI6 := Lib.hid (HI5.out.on hX6)
      have HN6 := Lib.hid (HN5.out.kept hX6 (Nat.le_refl _))
      have HB6 := Lib.hid (HB5.out.kept hX6 (Nat.le_refl _))
      have hB6 := hB5.trans (hX6.mono hB5.size)
      obtain ⟨⟨a6, ca6, p6, -⟩, pf6, pl6⟩ := HI6.out
      clear hX6 HI5 HN5 HB5 g0
      have HIs := Lib.hid (HI6.out.put HB6.out)
      have HNs := Lib.hid (HN6.out.store p6 (.slice ga G.length gc))
      have hBs := hB6.setCell (p := ⟨w.heap.size, 0, none⟩) (Nat.le_refl _) (.slice ga G.length gc)
      go_wp2_with fail
      go_roundw
      (case rel => exact (⟨k + 1, us ++ [T], by go_num, by omega, by rw [List.length_append, HUS.out]; rfl, (fun x hx => (List.mem_append.1 hx).elim (HUW.out x) (fun h => by rw [List.mem_singleton] at h; rw [h]; exact HT.out)), by rw [HG.out]; exact HIs.out, ⟨nm, nc, by rw [HG.out], by rw [HG.out]; exact HNs.out⟩, hBs⟩))
      (case measure => first | (simp [intOf]; done) | (simp [intOf]; omega))
    · obtain rfl : k = m := by omega
      have HTM := Lib.hid (withAll_tm us HUW.out)
      generalize withAll us = F at *
      obtain ⟨⟨a, ca, p1, p2⟩, pf, pl⟩ := HI.out
      have HP := Lib.hid p2
      have HCA := Lib.hid (fun W h => cut_next a _ ca F low high W rfl h (by omega) HR.out)
      have HCB := Lib.hid (fun W h => refCut_next am _ cm F low high W rfl h (by omega) HR.out)
      have HTA := Lib.hid (fun W h => text_next a _ ca F W rfl h (by omega) HTM.out)
      have HTB := Lib.hid (fun W h => refText_next am _ cm F W rfl h (by omega) HTM.out)
      have HGE := Lib.hid (fun W h => get_empty a _ ca F W rfl h (by omega) HR.out HTM.out)
      have HIR := Lib.hid (cutIn_rising HR.out low high)
      have HOR := Lib.hid (cutOut_rising HR.out low high)
      have hil := cutIn_le HR.out low high
      have hil2 := cutOut_le HR.out low high
      generalize cutIn F low high = I at *
      generalize cutOut F low high = O at *
      generalize textU F = TF at *
      clear p2 pf HI hus
      go_wp2_with fail
      refine (thread (HCA.out _ HP.out) wr.heap.size wr (by go_grown) (by go_grown)).mono ?_
      rintro e w2 ⟨⟨a1, c1, a2, c2, rfl, hi2, ho2⟩, hX2, -, -, -, hz2⟩
      have p2 := kept_cell hX2 p1
      have HI2 := Lib.hid hi2
      have HO2 := Lib.hid ho2
      have HP2 := Lib.hid (HP.out.kept hX2 (Nat.le_refl _))
      have HM2 := Lib.hid (HM.out.kept hX2 (Nat.le_refl _))
      have hB2 := hB.trans (hX2.mono hB.size)
      clear hi2 ho2 HP HM hX2 p1
      go_wp2_with fail
      refine (thread (HCB.out _ (HM2.out.kept (by go_grown) (Nat.le_refl _))) w2.heap.size w2 (by go_grown) (by go_grown)).mono ?_
      rintro e w3 ⟨⟨b1, d1, b2, d2, rfl, hi3, ho3⟩, hX3, hk3, -, hs3, hz3⟩
      have hs3' : w2.heap.size < w3.heap.size := by simp at hs3; omega
      have e0 : w3.cell? ⟨w2.heap.size, 0, none⟩ = some (.slice a1 I.length c1) := (hk3 w2.heap.size 0 (by simp; omega)).trans (by simp)
      have e1 : w3.cell? ⟨w2.heap.size + 1, 0, none⟩ = some (.slice a2 O.length c2) := (hk3 (w2.heap.size + 1) 0 (by simp)).trans (by simp)
      have p3 := kept_cell hX3 p2
      have HI3 := Lib.hid (HI2.out.kept hX3 (Nat.le_refl _))
      have HO3 := Lib.hid (HO2.out.kept hX3 (Nat.le_refl _))
      have HP3 := Lib.hid (HP2.out.kept hX3 (Nat.le_refl _))
      have HM3 := Lib.hid (HM2.out.kept hX3 (Nat.le_refl _))
      have HJ3 := Lib.hid hi3
      have HQ3 := Lib.hid ho3
      have hB3 := hB2.trans (hX3.mono hB2.size)
      clear hi3 ho3 HI2 HO2 HP2 HM2 hX3 hk3 p2 hs3 HCA HCB
      have E0 := Lib.hid e0
      have E1 := Lib.hid e1
      have E2 := Lib.hid p3
      go_wp2_with fail
      refine (thread (HTA.out _ HP3.out) w3.heap.size w3 (by go_grown) (by go_grown)).mono ?_
      rintro e w4 ⟨rfl, hX4, -, -, -, hz4⟩
      clear e0 e1 p3
      have p4 := kept_cell hX4 E2.out
      go_wp2_with fail
      refine (thread (HTB.out _ (HM3.out.kept hX4 (Nat.le_refl _))) w3.heap.size w3 hX4 hz4).mono ?_
      rintro e w5 ⟨rfl, hX5, -, -, -, hz5⟩
      clear p4
      have p5 := kept_cell hX5 E2.out
      go_wp2_with fail
      refine (thread (HGE.out _ (HP3.out.kept hX5 (Nat.le_refl _))) w3.heap.size w3 hX5 hz5).mono ?_
      rintro e w6 ⟨rfl, hX6, -, -, -, hz6⟩
      clear p5 HTA HTB HGE
      have d0 := cell_past (.cells #[.int .u8 0, .string ⟨#[]⟩, .string ⟨#[]⟩, .int .u64 0] 31) (kept_cell hX6 E0.out)
      have hX6' : Below w3.heap.size w3 (w6.alloc (.cells #[.int .u8 0, .string ⟨#[]⟩, .string ⟨#[]⟩, .int .u64 0] 31)) := hX6.alloc hz6 _
      have hz6' : w3.heap.size ≤ (w6.alloc (.cells #[.int .u8 0, .string ⟨#[]⟩, .string ⟨#[]⟩, .int .u64 0] 31)).heap.size := hX6'.size
      have HX6 := Lib.hid (And.intro hX6' hz6')
      clear hX6' hz6'
      go_wp2_with fail
      refine (thread (sameU_any a1 I.length c1 b1 d1 I _ rfl (HI3.out.kept HX6.out.1 (Nat.le_refl _)) (HJ3.out.slice.kept HX6.out.1 (Nat.le_refl _)) (by omega) HIR.out) w3.heap.size w3 HX6.out.1 HX6.out.2).mono ?_
      rintro e w7 ⟨rfl, hX7, -, -, -, hz7⟩
      clear d0
      have d1 := kept_cell hX7 E1.out
      go_wp2_with fail
      refine (thread (sameU_any a2 O.length c2 b2 d2 O _ rfl (HO3.out.kept hX7 (Nat.le_refl _)) (HQ3.out.slice.kept hX7 (Nat.le_refl _)) (by omega) HOR.out) w3.heap.size w3 hX7 hz7).mono ?_
      rintro e w8 ⟨rfl, hX8, -, -, -, hz8⟩
      clear d1
      have d2 := kept_cell hX8 E2.out
      go_wp2_with fail
      refine (thread (sameU_any a F.length ca am cm F _ rfl (HP3.out.kept hX8 (Nat.le_refl _)) (HM3.out.slice.kept hX8 (Nat.le_refl _)) (by omega) HR.out) w3.heap.size w3 hX8 hz8).mono ?_
      rintro e w9 ⟨rfl, hX9, -, -, -, hz9⟩
      go_wp2_with fail
      go_ret
      exact ⟨rfl, hB3.trans (hX9.mono hB3.size)⟩

end Go.Proofs.Ytcjeonamebnpfaa
