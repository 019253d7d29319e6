/-
  The walk of flush.Step.
-/
import Derived.Test.YtafciefjlkdecaaGreatCnt
import Derived.Deep.RegionLawGrows
namespace Go.Proofs.YtafciefjlkdecaaGreat
open Go.RowKit
attribute [local go_sem ↓] Go.wp_at_zero Go.wp_at_succ

set_option maxRecDepth 100000 in
set_option maxHeartbeats 4000000 in
theorem step_none (v : Value) (cs : List Chd) (us : List Upd) (w : World) (h : NodeAt w v cs us) (hl : cs.length ≤ 1000) (hu : us.length ≤ 1000) (k : Nat) (hk : topL (cntAt cs us) 1 = [(k : Int)]) (hkl : k < (cntAt cs us).length) (hc : (cntAt cs us)[k] < 1) :
    Calls Tryz.prog 91 #[v] w fun e w' => e = .returned (.tuple #[.int .i64 0, .agg #[.slice none 0 0], .agg #[.slice none 0 0, .slice none 0 0], .bool false]) ∧ Below w.heap.size w w' := by
  obtain ⟨a, b, x, y, rfl, h1, h2⟩ := h
  have HN := Lib.hid (show NodeAt w (.agg #[.slice a cs.length x, .slice b us.length y]) cs us from ⟨a, b, x, y, rfl, h1, h2⟩)
  have HF := Lib.hid (fun ao cap W h => fullest_all ao cap (cntAt cs us) W h (by rw [cntAt_len]; omega) k hk hkl)
  rw [if_pos hc] at HF
  clear h1 h2 hc hk
  go_enter Tryz.func91, Tryz.ntmps91
  go_wp2_with fail
  refine (thread (counts_any _ cs us _ (HN.out.kept (by go_grown) (Nat.le_refl _)) hl hu) w.heap.size w (by go_grown) (by go_grown)).mono ?_
  rintro e w1 ⟨⟨v1, rfl, hO⟩, hB1, hk1, hf1, hs1, hz1⟩
  obtain ⟨ao, c, rfl, hI, -, -⟩ := hO.form
  have HI := Lib.hid hI
  clear hO hI
  go_wp2_with fail
  refine (thread (HF.out ao c _ HI.out) w.heap.size w hB1 hz1).mono ?_
  rintro e w2 ⟨rfl, hB2, hk2, hf2, hs2, hz2⟩
  simp at hs1
  have c3 : w2.cell? ⟨w.heap.size + 1, 0, none⟩ = some (.slice none 0 0) := (hk2 _ 0 (by omega)).trans ((hk1 (w.heap.size + 1) 0 (by simp)).trans (by rw [World.cell?_alloc_past _ _ _ (by simp), World.cell?_alloc_at _ _ _ _ (by simp)]; rfl))
  have c4 : w2.cell? ⟨w.heap.size + 1 + 1, 0, none⟩ = some (.slice none 0 0) := (hk2 _ 0 (by omega)).trans ((hk1 (w.heap.size + 1 + 1) 0 (by simp)).trans (by rw [World.cell?_alloc_at _ _ _ _ (by simp)]; rfl))
  have c5 : w2.cell? ⟨w.heap.size + 1 + 1, 1, none⟩ = some (.slice none 0 0) := (hk2 _ 1 (by omega)).trans ((hk1 (w.heap.size + 1 + 1) 1 (by simp)).trans (by rw [World.cell?_alloc_at _ _ _ _ (by simp)]; rfl))
  have f3 : w2.frozen? ⟨w.heap.size + 1, 0, none⟩ = false := (hf2 _ 0 (by omega)).trans ((hf1 (w.heap.size + 1) 0 (by simp)).trans (by rw [World.frozen?_alloc_past _ _ _ (by simp), World.frozen?_alloc_at _ _ _ _ (by simp)]))
  have f4 : w2.frozen? ⟨w.heap.size + 1 + 1, 0, none⟩ = false := (hf2 _ 0 (by omega)).trans ((hf1 (w.heap.size + 1 + 1) 0 (by simp)).trans (by rw [World.frozen?_alloc_at _ _ _ _ (by simp)]))
  have f5 : w2.frozen? ⟨w.heap.size + 1 + 1, 1, none⟩ = false := (hf2 _ 1 (by omega)).trans ((hf1 (w.heap.size + 1 + 1) 1 (by simp)).trans (by rw [World.frozen?_alloc_at _ _ _ _ (by simp)]))
  clear hk1 hf1 hk2 hf2 hB1
  go_wp2_with fail
  refine bodyPost_ret (v := .tuple #[.int .i64 0, .agg #[.slice none 0 0], .agg #[.slice none 0 0, .slice none 0 0], .bool false]) ?_ rfl ⟨rfl, ?_⟩
  · simp [results, Tryz.results91, go_sem, c3, c4, c5]
  · exact (((hB2.setCell (p := ⟨w.heap.size + 1, 0, none⟩) (by simp) _).setCell (p := ⟨w.heap.size + 1 + 1, 0, none⟩) (by simp; omega) _).setCell (p := ⟨w.heap.size + 1 + 1, 1, none⟩) (by simp; omega) _)

set_option maxRecDepth 100000 in
set_option maxHeartbeats 8000000 in
theorem step_some (v : Value) (cs : List Chd) (us : List Upd) (w : World) (h : NodeAt w v cs us) (hl : cs.length ≤ 1000) (hu : us.length ≤ 1000) (hr : Rising Upd.key us) (k : Nat) (hk : topL (cntAt cs us) 1 = [(k : Int)]) (hkl : k < (cntAt cs us).length) (hc : ¬ (cntAt cs us)[k] < 1) :
    Calls Tryz.prog 91 #[v] w fun e w' => (∃ a1 y1 nv, e = .returned (.tuple #[.int .i64 k, .agg #[.slice a1 (cutIn us (rngLow cs k) (rngHigh cs k)).length y1], nv, .bool true]) ∧ BoxU w' (.agg #[.slice a1 (cutIn us (rngLow cs k) (rngHigh cs k)).length y1]) (cutIn us (rngLow cs k) (rngHigh cs k)) ∧ NodeAt w' nv cs (cutOut us (rngLow cs k) (rngHigh cs k))) ∧ Below w.heap.size w w' := by
  obtain ⟨a, b, x, y, rfl, h1, h2⟩ := h
  have HN := Lib.hid (show NodeAt w (.agg #[.slice a cs.length x, .slice b us.length y]) cs us from ⟨a, b, x, y, rfl, h1, h2⟩)
  have HU := Lib.hid h2
  have HCH := Lib.hid h1
  have HF := Lib.hid (fun ao cap W h => fullest_all ao cap (cntAt cs us) W h (by rw [cntAt_len]; omega) k hk hkl)
  rw [if_neg hc] at HF
  have hkc : k < 1000 := by rw [cntAt_len] at hkl; omega
  have HR := Lib.hid hr
  clear h1 h2 hc hk hr hkl
  go_enter Tryz.func91, Tryz.ntmps91
  go_wp2_with fail
  refine (thread (counts_any _ cs us _ (HN.out.kept (by go_grown) (Nat.le_refl _)) hl hu) w.heap.size w (by go_grown) (by go_grown)).mono ?_
  rintro e w1 ⟨⟨v1, rfl, hO⟩, hB1, hk1, hf1, hs1, hz1⟩
  obtain ⟨ao, c, rfl, hI, -, -⟩ := hO.form
  have HI := Lib.hid hI
  clear hO hI
  go_wp2_with fail
  refine (thread (HF.out ao c _ HI.out) w.heap.size w hB1 hz1).mono ?_
  rintro e w2 ⟨rfl, hB2, hk2, hf2, hs2, hz2⟩
  simp at hs1
  have c0 : w2.cell? ⟨w.heap.size, 0, none⟩ = some (.slice a cs.length x) := (hk2 _ 0 (by omega)).trans ((hk1 (w.heap.size) 0 (by simp <;> omega)).trans (by rw [World.cell?_alloc_past _ _ _ (by simp <;> omega), World.cell?_alloc_past _ _ _ (by simp <;> omega), World.cell?_alloc_at _ _ _ _ (by simp)]; rfl))
  have f0 : w2.frozen? ⟨w.heap.size, 0, none⟩ = false := (hf2 _ 0 (by omega)).trans ((hf1 (w.heap.size) 0 (by simp <;> omega)).trans (by rw [World.frozen?_alloc_past _ _ _ (by simp <;> omega), World.frozen?_alloc_past _ _ _ (by simp <;> omega), World.frozen?_alloc_at _ _ _ _ (by simp)]))
  have c1 : w2.cell? ⟨w.heap.size, 1, none⟩ = some (.slice b us.length y) := (hk2 _ 1 (by omega)).trans ((hk1 (w.heap.size) 1 (by simp <;> omega)).trans (by rw [World.cell?_alloc_past _ _ _ (by simp <;> omega), World.cell?_alloc_past _ _ _ (by simp <;> omega), World.cell?_alloc_at _ _ _ _ (by simp)]; rfl))
  have f1 : w2.frozen? ⟨w.heap.size, 1, none⟩ = false := (hf2 _ 1 (by omega)).trans ((hf1 (w.heap.size) 1 (by simp <;> omega)).trans (by rw [World.frozen?_alloc_past _ _ _ (by simp <;> omega), World.frozen?_alloc_past _ _ _ (by simp <;> omega), World.frozen?_alloc_at _ _ _ _ (by simp)]))
  have c3 : w2.cell? ⟨w.heap.size + 1, 0, none⟩ = some (.slice none 0 0) := (hk2 _ 0 (by omega)).trans ((hk1 (w.heap.size + 1) 0 (by simp <;> omega)).trans (by rw [World.cell?_alloc_past _ _ _ (by simp <;> omega), World.cell?_alloc_at _ _ _ _ (by simp)]; rfl))
  have f3 : w2.frozen? ⟨w.heap.size + 1, 0, none⟩ = false := (hf2 _ 0 (by omega)).trans ((hf1 (w.heap.size + 1) 0 (by simp <;> omega)).trans (by rw [World.frozen?_alloc_past _ _ _ (by simp <;> omega), World.frozen?_alloc_at _ _ _ _ (by simp)]))
  have c4 : w2.cell? ⟨w.heap.size + 1 + 1, 0, none⟩ = some (.slice none 0 0) := (hk2 _ 0 (by omega)).trans ((hk1 (w.heap.size + 1 + 1) 0 (by simp <;> omega)).trans (by rw [World.cell?_alloc_at _ _ _ _ (by simp)]; rfl))
  have f4 : w2.frozen? ⟨w.heap.size + 1 + 1, 0, none⟩ = false := (hf2 _ 0 (by omega)).trans ((hf1 (w.heap.size + 1 + 1) 0 (by simp <;> omega)).trans (by rw [World.frozen?_alloc_at _ _ _ _ (by simp)]))
  have c5 : w2.cell? ⟨w.heap.size + 1 + 1, 1, none⟩ = some (.slice none 0 0) := (hk2 _ 1 (by omega)).trans ((hk1 (w.heap.size + 1 + 1) 1 (by simp <;> omega)).trans (by rw [World.cell?_alloc_at _ _ _ _ (by simp)]; rfl))
  have f5 : w2.frozen? ⟨w.heap.size + 1 + 1, 1, none⟩ = false := (hf2 _ 1 (by omega)).trans ((hf1 (w.heap.size + 1 + 1) 1 (by simp <;> omega)).trans (by rw [World.frozen?_alloc_at _ _ _ _ (by simp)]))
  have hs2' : w.heap.size + 3 ≤ w2.heap.size := by omega
  clear hk1 hf1 hk2 hf2 hB1 HF HI hs1 hs2 hz1
  have hcu := fun W h => cut_next b _ y us (rngLow cs (k : Int)) (rngHigh cs (k : Int)) W rfl h hu HR.out
  have HCU := Lib.hid hcu
  have hra := fun W h => range_any (.agg #[.slice a cs.length x, .slice b us.length y]) cs us (k : Int) W h hl (by omega)
  have HRA := Lib.hid hra
  clear hcu hra
  generalize hlo : rngLow cs (k : Int) = lo at *
  generalize hhi : rngHigh cs (k : Int) = hi at *
  have HLO := Lib.hid hlo
  have HHI := Lib.hid hhi
  clear hlo hhi
  generalize hI : cutIn us lo hi = I at *
  generalize hO : cutOut us lo hi = O at *
  have HI := Lib.hid hI
  have HO := Lib.hid hO
  clear hI hO
  go_upto_region 5 with (fail)
  obtain ⟨W, hW⟩ : ∃ W, W = w2.alloc (.cells #[.slice none 0 0] 103) := ⟨_, rfl⟩
  rw [← hW]
  have d0 : W.cell? ⟨w.heap.size, 0, none⟩ = some (.slice a cs.length x) := by rw [hW]; exact cell_past _ c0
  have d1 : W.cell? ⟨w.heap.size, 1, none⟩ = some (.slice b us.length y) := by rw [hW]; exact cell_past _ c1
  have d8 : W.cell? ⟨w2.heap.size, 0, none⟩ = some (.slice none 0 0) := by rw [hW]; simp
  have g0 : W.frozen? ⟨w.heap.size, 0, none⟩ = false := by rw [hW, World.frozen?_alloc_past _ _ _ (by omega)]; exact f0
  have g1 : W.frozen? ⟨w.heap.size, 1, none⟩ = false := by rw [hW, World.frozen?_alloc_past _ _ _ (by omega)]; exact f1
  have g8 : W.frozen? ⟨w2.heap.size, 0, none⟩ = false := by rw [hW]; simp
  have hWs : w2.heap.size < W.heap.size := by rw [hW]; simp
  have hWB : Below w2.heap.size w2 W := by rw [hW]; exact (Below.refl _ _).alloc (Nat.le_refl _) _
  have HNW := Lib.hid (HN.out.kept (hB2.trans (hWB.mono (by omega))) (Nat.le_refl _))
  have HUW := Lib.hid (HU.out.kept (hB2.trans (hWB.mono (by omega))) (Nat.le_refl _))
  clear hW
  go_cut [19] (fun _ wx => ∃ a1 y1 a2 y2, wx.cell? ⟨w.heap.size, 0, none⟩ = some (.slice a cs.length x) ∧ wx.cell? ⟨w.heap.size, 1, none⟩ = some (.slice a2 O.length y2) ∧ wx.cell? ⟨w2.heap.size, 0, none⟩ = some (.slice a1 I.length y1) ∧ Hid (BoxU wx (.agg #[.slice a1 I.length y1]) I ∧ BoxU wx (.agg #[.slice a2 O.length y2]) O) ∧
    wx.frozen? ⟨w.heap.size, 0, none⟩ = false ∧ w2.heap.size < wx.heap.size ∧ (∀ b o, b < w2.heap.size → b ≠ w.heap.size → wx.cell? ⟨b, o, none⟩ = w2.cell? ⟨b, o, none⟩) ∧ (∀ b o, b < w2.heap.size → wx.frozen? ⟨b, o, none⟩ = w2.frozen? ⟨b, o, none⟩) ∧ Below w.heap.size w2 wx)
  case first =>
    go_region_law (first
      | (go_simp; go_at_call 76; refine (HRA.out _ (HNW.out.kept (by go_grown) (Nat.le_refl _))).mono ?_; rintro e w4 ⟨rfl, hb4⟩; have X4 := Lib.hid ((below_drew' (Below.refl W.heap.size W)).trans hb4); have y1 := kept_cell hb4 (cell_drew d1); clear hb4)
      | (go_simp; go_at_call 78; refine (HCU.out _ (BoxU.mk ⟨_, rfl, HUW.out.kept X4.out (Nat.le_refl _)⟩)).mono ?_; rintro e w5 ⟨⟨a1, z1, a2, z2, rfl, hi5, ho5⟩, hb5⟩; have X5 := Lib.hid (X4.out.trans (hb5.mono X4.out.size)); have HB5 := Lib.hid (And.intro hi5 ho5); have q0 := kept_cell X5.out d0; have q1 := kept_cell X5.out d1; have q8 := kept_cell X5.out d8; have r0 := ((bcell X5.out).2 w.heap.size 0 (by omega)).trans g0; have r1 := ((bcell X5.out).2 w.heap.size 1 (by omega)).trans g1; have r8 := ((bcell X5.out).2 w2.heap.size 0 (by omega)).trans g8; clear hb5 hi5 ho5))
    all_goals
      obtain ⟨wx, hwx⟩ : ∃ wx, wx = (w5.setCell ⟨w2.heap.size, 0, none⟩ (.slice a1 I.length z1)).setCell ⟨w.heap.size, 1, none⟩ (.slice a2 O.length z2) := ⟨_, rfl⟩
      rw [← hwx]
      have q1' : (w5.setCell ⟨w2.heap.size, 0, none⟩ (.slice a1 I.length z1)).cell? ⟨w.heap.size, 1, none⟩ = some (.slice b us.length y) := (World.cell?_setCell_other _ _ _ _ (addr_ne (Or.inl (by omega)))).trans q1
      have s0 : wx.cell? ⟨w.heap.size, 0, none⟩ = some (.slice a cs.length x) := by rw [hwx, World.cell?_setCell_other _ _ _ _ (addr_ne (Or.inr (by omega))), World.cell?_setCell_other _ _ _ _ (addr_ne (Or.inl (by omega)))]; exact q0
      have s1 : wx.cell? ⟨w.heap.size, 1, none⟩ = some (.slice a2 O.length z2) := by rw [hwx]; exact World.cell?_setCell_same _ _ _ q1'
      have s8 : wx.cell? ⟨w2.heap.size, 0, none⟩ = some (.slice a1 I.length z1) := by rw [hwx, World.cell?_setCell_other _ _ _ _ (addr_ne (Or.inl (by omega)))]; exact World.cell?_setCell_same _ _ _ q8
      have HB := Lib.hid (show BoxU wx (.agg #[.slice a1 I.length z1]) I ∧ BoxU wx (.agg #[.slice a2 O.length z2]) O from by rw [hwx]; exact ⟨(HB5.out.1.setAt q8 _).setAt q1' _, (HB5.out.2.setAt q8 _).setAt q1' _⟩)
      have t0 : wx.frozen? ⟨w.heap.size, 0, none⟩ = false := by rw [hwx, World.frozen?_setCell, World.frozen?_setCell]; exact r0
      have hsx : w2.heap.size < wx.heap.size := by rw [hwx, World.size_setCell, World.size_setCell]; exact Nat.lt_of_lt_of_le hWs X5.out.size
      have hk : ∀ b o, b < w2.heap.size → b ≠ w.heap.size → wx.cell? ⟨b, o, none⟩ = w2.cell? ⟨b, o, none⟩ := fun b o hb hne => by
        rw [hwx, World.cell?_setCell_other _ _ _ _ (addr_ne (Or.inl (by omega))), World.cell?_setCell_other _ _ _ _ (addr_ne (Or.inl (by omega)))]
        exact ((bcell X5.out).1 b o (by omega)).trans ((bcell hWB).1 b o hb)
      have hf : ∀ b o, b < w2.heap.size → wx.frozen? ⟨b, o, none⟩ = w2.frozen? ⟨b, o, none⟩ := fun b o hb => by
        rw [hwx, World.frozen?_setCell, World.frozen?_setCell]
        exact ((bcell X5.out).2 b o (by omega)).trans ((bcell hWB).2 b o hb)
      have hb : Below w.heap.size w2 wx := by
        rw [hwx]
        exact (((hWB.mono hz2).trans (X5.out.mono (by omega))).setCell (p := ⟨w2.heap.size, 0, none⟩) hz2 _).setCell (p := ⟨w.heap.size, 1, none⟩) (Nat.le_refl _) _
      clear hwx q1'
      go_wp2_with fail
      go_meet
      exact ⟨a1, z1, a2, z2, s0, s1, s8, HB, t0, hsx, hk, hf, hb⟩
  case rest =>
    obtain ⟨a1, z1, a2, z2, s0, s1, s8, HB, t0, hsx, hk, hf, hb⟩ := hcut
    have k3 := (hk (w.heap.size + 1) 0 (by omega) (by omega)).trans c3
    have k4 := (hk (w.heap.size + 1 + 1) 0 (by omega) (by omega)).trans c4
    have k5 := (hk (w.heap.size + 1 + 1) 1 (by omega) (by omega)).trans c5
    have l3 := (hf (w.heap.size + 1) 0 (by omega)).trans f3
    have l4 := (hf (w.heap.size + 1 + 1) 0 (by omega)).trans f4
    have l5 := (hf (w.heap.size + 1 + 1) 1 (by omega)).trans f5
    have hB := hB2.trans hb
    have HCW := Lib.hid (HCH.out.kept hB (Nat.le_refl _))
    clear hk hf hb c0 c1 c3 c4 c5 f0 f1 f3 f4 f5 d0 d1 d8 g0 g1 g8 hB2
    go_wp2_with fail
    refine (thread (cloneC (.slice a cs.length x) cs _ HCW.out (by omega)) wc.heap.size wc (by go_grown) (by go_grown)).mono ?_
    rintro e w6 ⟨⟨v6, rfl, ho6⟩, hX6, -, -, hs6, hz6⟩
    obtain ⟨a6, y6, rfl⟩ := own_form ho6
    have HCL := Lib.hid (slC_row ho6).2
    have m0 := kept_cell hX6 s0
    have m1 := kept_cell hX6 s1
    have m8 := kept_cell hX6 s8
    have m3 := kept_cell hX6 k3
    have m4 := kept_cell hX6 k4
    have m5 := kept_cell hX6 k5
    have n0 := ((bcell hX6).2 w.heap.size 0 (by omega)).trans t0
    have n3 := ((bcell hX6).2 (w.heap.size + 1) 0 (by omega)).trans l3
    have n4 := ((bcell hX6).2 (w.heap.size + 1 + 1) 0 (by omega)).trans l4
    have n5 := ((bcell hX6).2 (w.heap.size + 1 + 1) 1 (by omega)).trans l5
    have HB6 := Lib.hid (And.intro (HB.out.1.kept hX6 (Nat.le_refl _)) (HB.out.2.kept hX6 (Nat.le_refl _)))
    have hB6 := hB.trans (hX6.mono hB.size)
    have hs6' : w2.heap.size < w6.heap.size := by omega
    clear ho6 s0 s1 s8 k3 k4 k5 t0 l3 l4 l5 hX6 hB HB HCW hs6 hz6
    go_upto_region 7 with (fail)
    obtain ⟨wy, hwy⟩ : ∃ wy, wy = w6.setCell ⟨w.heap.size, 0, none⟩ (.slice a6 cs.length y6) := ⟨_, rfl⟩
    rw [← hwy]
    have o0 : wy.cell? ⟨w.heap.size, 0, none⟩ = some (.slice a6 cs.length y6) := by rw [hwy]; exact World.cell?_setCell_same _ _ _ m0
    have o1 : wy.cell? ⟨w.heap.size, 1, none⟩ = some (.slice a2 O.length z2) := by rw [hwy, World.cell?_setCell_other _ _ _ _ (addr_ne (Or.inr (by omega)))]; exact m1
    have o8 : wy.cell? ⟨w2.heap.size, 0, none⟩ = some (.slice a1 I.length z1) := by rw [hwy, World.cell?_setCell_other _ _ _ _ (addr_ne (Or.inl (by omega)))]; exact m8
    have o3 : wy.cell? ⟨w.heap.size + 1, 0, none⟩ = some (.slice none 0 0) := by rw [hwy, World.cell?_setCell_other _ _ _ _ (addr_ne (Or.inl (by omega)))]; exact m3
    have o4 : wy.cell? ⟨w.heap.size + 1 + 1, 0, none⟩ = some (.slice none 0 0) := by rw [hwy, World.cell?_setCell_other _ _ _ _ (addr_ne (Or.inl (by omega)))]; exact m4
    have o5 : wy.cell? ⟨w.heap.size + 1 + 1, 1, none⟩ = some (.slice none 0 0) := by rw [hwy, World.cell?_setCell_other _ _ _ _ (addr_ne (Or.inl (by omega)))]; exact m5
    have p3 : wy.frozen? ⟨w.heap.size + 1, 0, none⟩ = false := by rw [hwy, World.frozen?_setCell]; exact n3
    have p4 : wy.frozen? ⟨w.heap.size + 1 + 1, 0, none⟩ = false := by rw [hwy, World.frozen?_setCell]; exact n4
    have p5 : wy.frozen? ⟨w.heap.size + 1 + 1, 1, none⟩ = false := by rw [hwy, World.frozen?_setCell]; exact n5
    have HY := Lib.hid (show SlC wy (.slice a6 cs.length y6) cs ∧ BoxU wy (.agg #[.slice a1 I.length z1]) I ∧ BoxU wy (.agg #[.slice a2 O.length z2]) O from by rw [hwy]; exact ⟨HCL.out.setAt m0 _, HB6.out.1.setAt m0 _, HB6.out.2.setAt m0 _⟩)
    have hBy : Below w.heap.size w wy := by rw [hwy]; exact hB6.setCell (p := ⟨w.heap.size, 0, none⟩) (Nat.le_refl _) _
    clear hwy m0 m1 m8 m3 m4 m5 n0 n3 n4 n5 HB6 hB6 HCL
    go_region
    all_goals
      go_wp2_with fail
      have p4' : (wy.setCell ⟨w.heap.size + 1, 0, none⟩ (.slice a1 I.length z1)).cell? ⟨w.heap.size + 1 + 1, 0, none⟩ = some (.slice none 0 0) := (World.cell?_setCell_other _ _ _ _ (addr_ne (Or.inl (by omega)))).trans o4
      have p5' : ((wy.setCell ⟨w.heap.size + 1, 0, none⟩ (.slice a1 I.length z1)).setCell ⟨w.heap.size + 1 + 1, 0, none⟩ (.slice a6 cs.length y6)).cell? ⟨w.heap.size + 1 + 1, 1, none⟩ = some (.slice none 0 0) := (World.cell?_setCell_other _ _ _ _ (addr_ne (Or.inr (by omega)))).trans ((World.cell?_setCell_other _ _ _ _ (addr_ne (Or.inl (by omega)))).trans o5)
      have hE := ((hBy.setCell (p := ⟨w.heap.size + 1, 0, none⟩) (by simp) (.slice a1 I.length z1)).setCell (p := ⟨w.heap.size + 1 + 1, 0, none⟩) (by simp; omega) (.slice a6 cs.length y6)).setCell (p := ⟨w.heap.size + 1 + 1, 1, none⟩) (by simp; omega) (.slice a2 O.length z2)
      have hI := ((HY.out.2.1.setAt o3 (.slice a1 I.length z1)).setAt p4' (.slice a6 cs.length y6)).setAt p5' (.slice a2 O.length z2)
      have hO := ((HY.out.2.2.setAt o3 (.slice a1 I.length z1)).setAt p4' (.slice a6 cs.length y6)).setAt p5' (.slice a2 O.length z2)
      have hC := ((HY.out.1.setAt o3 (.slice a1 I.length z1)).setAt p4' (.slice a6 cs.length y6)).setAt p5' (.slice a2 O.length z2)
      obtain ⟨sO, eO, hO'⟩ := hO
      simp only [Value.agg.injEq, Array.mk.injEq, List.cons.injEq, and_true] at eO
      subst eO
      refine bodyPost_ret (v := .tuple #[.int .i64 k, .agg #[.slice a1 I.length z1], .agg #[.slice a6 cs.length y6, .slice a2 O.length z2], .bool true]) ?_ rfl ⟨⟨a1, z1, .agg #[.slice a6 cs.length y6, .slice a2 O.length z2], ?_, ?_, ?_⟩, below_drew' hE⟩
      · simp [results, Tryz.results91, go_sem, o3, o4, o5]
      · rw [HLO.out, HHI.out, HI.out]
      · rw [HLO.out, HHI.out, HI.out]; exact hI.kept (below_drew' (Below.refl _ _)) (Nat.le_refl _)
      · rw [HLO.out, HHI.out, HO.out]; exact (NodeAt.mk' hC hO').kept (below_drew' (Below.refl _ _)) (Nat.le_refl _)

end Go.Proofs.YtafciefjlkdecaaGreat
