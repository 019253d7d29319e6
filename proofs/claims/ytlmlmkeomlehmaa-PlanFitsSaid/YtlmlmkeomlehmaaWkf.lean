/-
  The walk of law 20's wakes.
-/
import Derived.Test.YtlmlmkeomlehmaaSpr
namespace Go.Proofs.Ytlmlmkeomlehmaa
open Go.RowKit
attribute [local go_sem ↓] Go.wp_at_zero Go.wp_at_succ

def wkK : List (List UInt8) := [[1], [2], [5]]
def wkU : List Upd := wkK.map fun k => ⟨2, k, [], 0⟩
theorem wk_succ (j : Nat) (h : j < wkK.length) : wkU.take (j + 1) = wkU.take j ++ [⟨2, wkK[j], [], 0⟩] := by
  unfold wkU
  rw [List.take_succ_eq_append_getElem (by simpa using h)]
  simp
def wkC : List Chd := kids [[]]
theorem wkU_ok : ∀ j, ∀ x ∈ wkU.take j, x.Wf ∧ x.val.length ≤ 1000000 := by
  intro j x hx
  have h := List.mem_of_mem_take hx
  simp only [wkU, wkK, List.map_cons, List.map_nil, List.mem_cons, List.not_mem_nil, or_false] at h
  rcases h with rfl | rfl | rfl <;> exact ⟨⟨by decide, by decide⟩, by decide⟩
theorem wk_all : withAll wkU = wkU := by rfl
theorem wk_cnt : cntAt wkC wkU = [2, 1] := by decide
theorem wk_top : topL (cntAt wkC wkU) 1 = [((0 : Nat) : Int)] := by rw [wk_cnt]; decide
theorem wk_in : (cutIn wkU (rngLow wkC (0 : Nat)) (rngHigh wkC (0 : Nat))).length = 2 := by decide
theorem wk_out : (cutOut wkU (rngLow wkC (0 : Nat)) (rngHigh wkC (0 : Nat))).length = 1 := by decide
theorem wk_low : lowAt wkC 1 = [4] := by decide
theorem wk_half : (cutOut wkU [] (lowAt wkC 1)).length = 1 ∧ (wkC.take 1).length = 1 := by decide
theorem wk_len : wkC.length = 2 ∧ wkU.length = 3 := by decide
theorem wk_zero (l : List Int) (hl : l = [2, 1]) (h : 0 < l.length) : ¬ l[0] < 1 := by subst hl; simp
theorem wk_clen : 0 < (cntAt wkC wkU).length := by rw [wk_cnt]; decide
theorem wk_drop : (headless (wkC.drop 1)).length = 1 ∧ (cutIn wkU [] (lowAt wkC 1)).length = 2 := by decide
theorem wk_rise : Rising Upd.key wkU := by
  have := (withAll_ok wkU (fun x hx => wkU_ok 3 x (by simpa [wkU, wkK] using hx))).1
  rwa [wk_all] at this

set_option maxRecDepth 100000 in
set_option maxHeartbeats 4000000 in
theorem wakes20_any (w : World) : Calls Try.prog 39 #[] w fun e w' => e = .returned (.bool true) ∧ Below w.heap.size w w' := by
  go_enter Try.func39, Try.ntmps39
  go_wp2_with fail
  have hst : StrAt (w.alloc (.cells #[.string ⟨#[]⟩] 9)) (some ⟨w.heap.size, 0, none⟩) [[]] := Or.inr ⟨w.heap.size, 0, rfl, by simp, fun i hi j x hx => by
    obtain rfl : i = 0 := by simpa using hi
    have hj : j = 0 := by have := (List.getElem?_eq_some_iff.1 hx).1; simp at this; exact this
    subst hj
    simp at hx
    subst hx
    simp
    rfl⟩
  refine (thread (of_any (some ⟨w.heap.size, 0, none⟩) 1 [[]] none 0 [] _ hst (by decide) (Or.inl rfl) (by decide) (by simp) (by simp)) w.heap.size w (by go_grown) (by go_grown)).mono ?_
  rintro e w1 ⟨⟨va, vb, rfl, hva, hvb⟩, hB1, -, -, -, hz1⟩
  obtain ⟨a1, b1, x1, y1, rfl, hC1, hU1⟩ := hva
  obtain ⟨a2, b2, x2, y2, rfl, -, -⟩ := hvb
  have HC := Lib.hid hC1
  have HU := Lib.hid hU1
  clear hC1 hU1 hst
  have hkl : (kids [[]]).length = 2 := by decide
  have hul : (withAll (upds [])).length = 0 := by decide
  go_wp2_with fail
  obtain ⟨W, hW⟩ : ∃ W, W = ((w1.alloc (.cells #[.slice a1 2 x1, .slice b1 0 y1] 31)).alloc (.cells #[.slice a2 2 x2, .slice b2 0 y2] 35)).alloc (.cells #[.string ⟨#[1]⟩, .string ⟨#[2]⟩, .string ⟨#[5]⟩] 9) := ⟨_, rfl⟩
  rw [← hW]
  have hWB : Below w1.heap.size w1 W := by rw [hW]; go_grown
  have c0 : W.cell? ⟨w1.heap.size, 0, none⟩ = some (.slice a1 2 x1) := by rw [hW, World.cell?_alloc_past _ _ _ (by simp <;> omega), World.cell?_alloc_past _ _ _ (by simp <;> omega), World.cell?_alloc_at _ _ _ _ (by simp)]; rfl
  have c1 : W.cell? ⟨w1.heap.size, 1, none⟩ = some (.slice b1 0 y1) := by rw [hW, World.cell?_alloc_past _ _ _ (by simp <;> omega), World.cell?_alloc_past _ _ _ (by simp <;> omega), World.cell?_alloc_at _ _ _ _ (by simp)]; rfl
  have f1 : W.frozen? ⟨w1.heap.size, 1, none⟩ = false := by rw [hW, World.frozen?_alloc_past _ _ _ (by simp <;> omega), World.frozen?_alloc_past _ _ _ (by simp <;> omega), World.frozen?_alloc_at _ _ _ _ (by simp)]
  have hSt : StrAt W (some ⟨w1.heap.size + 1 + 1, 0, none⟩) wkK := Or.inr ⟨w1.heap.size + 1 + 1, 0, rfl, by rw [hW]; simp, fun i hi j x hx => by
    have hj : j = 0 := by have := (List.getElem?_eq_some_iff.1 hx).1; simp at this; exact this
    subst hj
    rw [hW, World.cell?_alloc_at _ _ _ _ (by simp)]
    match i, hi with
    | 0, _ => exact hx
    | 1, _ => exact hx
    | 2, _ => exact hx⟩
  rw [hkl] at HC
  rw [hul] at HU
  have hnil : withAll (upds []) = withAll (wkU.take 0) := rfl
  rw [hnil] at HU
  have HS0 := Lib.hid (And.intro hSt (And.intro (show SlC W (.slice a1 2 x1) wkC from HC.out.kept hWB (Nat.le_refl _)) f1))
  have HB0 := Lib.hid (show BoxU W (.agg #[.slice b1 (withAll (wkU.take 0)).length y1]) (withAll (wkU.take 0)) from ⟨_, rfl, HU.out.kept hWB (Nat.le_refl _)⟩)
  have hB0 : Below w.heap.size w W := hB1.trans (hWB.mono hz1)
  have hp0 : w1.heap.size < W.heap.size := World.block_lt_of_cell? W _ c0
  clear hW hWB hSt f1 HC HU hkl hul hnil
  go_loopw [20] (fun i wr => ∃ (j : Nat) (b : Option Addr) (y : Nat), i = .int .i64 j ∧ j ≤ 3 ∧ wr.cell? ⟨w1.heap.size, 0, none⟩ = some (.slice a1 2 x1) ∧ wr.cell? ⟨w1.heap.size, 1, none⟩ = some (.slice b (withAll (wkU.take j)).length y) ∧ Hid (BoxU wr (.agg #[.slice b (withAll (wkU.take j)).length y]) (withAll (wkU.take j))) ∧ Hid (StrAt wr (some ⟨w1.heap.size + 1 + 1, 0, none⟩) wkK ∧ SlC wr (.slice a1 2 x1) wkC ∧ wr.frozen? ⟨w1.heap.size, 1, none⟩ = false) ∧ Below w.heap.size w wr) (fun i _ => 3 - (intOf i).toNat)
  case atStart => exact ⟨0, b1, y1, rfl, by omega, c0, c1, HB0, HS0, hB0⟩
  case round =>
    obtain ⟨j, b, y, rfl, hj, e0, e1, HB, HS, hB⟩ := hrel
    have hj0 : (0 : Int) ≤ (j : Int) := Int.natCast_nonneg _
    have hpr : w1.heap.size < wr.heap.size := World.block_lt_of_cell? wr _ e0
    by_cases hj3 : j < 3
    · have hj1 : (j : Int) < 3 := by omega
      obtain ⟨b0, off, he, hb, q0⟩ := HS.out.1.cell j hj3
      simp only [Option.some.injEq, Addr.mk.injEq, and_true] at he
      obtain ⟨rfl, rfl⟩ := he
      rw [Nat.zero_add] at q0
      have HT := Lib.hid (wk_succ j hj3)
      have hwn := fun W h => with_next b _ y (wkU.take j) ⟨2, wkK[j], [], 0⟩ W rfl h (by rw [List.length_take]; omega) (wkU_ok j) ⟨by show (2 : Nat) < 256; decide, by show (0 : Nat) < 18446744073709551616; decide⟩
      rw [← HT.out] at hwn
      have HW := Lib.hid hwn
      have f1 := HS.out.2.2
      clear hwn c0 c1
      generalize wkK[j] = key at *
      go_wp2_with fail
      refine (thread (HW.out _ HB.out) wr.heap.size wr (by go_grown) (by go_grown)).mono ?_
      rintro e w3 ⟨⟨a', c', rfl, hb'⟩, hX3, -, -, hs3, hz3⟩
      have g0 := kept_cell hX3 e0
      have g1 := kept_cell hX3 e1
      have gf := ((bcell hX3).2 w1.heap.size 1 hpr).trans f1
      have HB3 := Lib.hid hb'
      have HS3 := Lib.hid (And.intro (HS.out.1.kept hX3 (Nat.le_refl _)) (HS.out.2.1.kept hX3 (Nat.le_refl _)))
      have hB3 := hB.trans (hX3.mono hB.size)
      clear hb' hX3 e0 e1 f1 q0
      go_wp2_with fail
      exact ⟨⟨j + 1, a', c', by go_num, by omega, (World.cell?_setCell_other _ _ _ _ (addr_ne (Or.inr (by decide)))).trans g0, World.cell?_setCell_same _ _ _ g1, Lib.hid (HB3.out.setAt g1 _), Lib.hid ⟨HS3.out.1.setAt g1 (fun x _ => by simp) _, HS3.out.2.setAt g1 _, by rw [World.frozen?_setCell]; exact gf⟩, hB3.setCell (p := ⟨w1.heap.size, 1, none⟩) (by show w.heap.size ≤ w1.heap.size; exact hz1) _⟩, by simp [intOf]; omega⟩
    · obtain rfl : j = 3 := by omega
      have hU : withAll (wkU.take 3) = wkU := rfl
      rw [hU] at e1 HB
      rw [wk_len.2] at e1 HB
      have hsl : SlU wr (.slice b 3 y) wkU := HB.out.slice
      have hN := NodeAt.mk' HS.out.2.1 hsl
      have HN := Lib.hid hN
      have HST := Lib.hid (fun W h => step_some (.agg #[.slice a1 2 x1, .slice b 3 y]) wkC wkU W h (by rw [wk_len.1]; decide) (by rw [wk_len.2]; decide) wk_rise 0 wk_top wk_clen (wk_zero _ wk_cnt _))
      have HHV := Lib.hid (fun W h => halves_some (.agg #[.slice a1 2 x1, .slice b 3 y]) wkC wkU W h (by rw [wk_len.1]; decide) (by rw [wk_len.1]; decide) (by rw [wk_len.2]; decide) wk_rise 1 (by rw [wk_len.1]))
      rw [wk_in] at HST
      rw [wk_low] at HHV
      clear hN hsl hU c0 c1 HS0 HB0 HB
      go_wp2_with fail
      refine (thread (HST.out wr HN.out) wr.heap.size wr (by go_grown) (by go_grown)).mono ?_
      rintro e w4 ⟨⟨a4, y4, nv, rfl, hbx, hnv⟩, hX4, -, -, -, hz4⟩
      obtain ⟨a5, b5, x5, y5, rfl, -, hu5⟩ := hnv
      rw [wk_out] at hu5 ⊢
      rw [wk_len.1]
      have HBX := Lib.hid hbx
      have HU5 := Lib.hid hu5
      clear hbx hu5
      have g0 := kept_cell hX4 e0
      have g1 := kept_cell hX4 e1
      have g0' := cell_past (.cells #[.slice a5 2 x5, .slice b5 1 y5] 31) (cell_past (.cells #[.slice a4 2 y4] 29) g0)
      have g1' := cell_past (.cells #[.slice a5 2 x5, .slice b5 1 y5] 31) (cell_past (.cells #[.slice a4 2 y4] 29) g1)
      have hX5 : Below w4.heap.size w4 ((w4.alloc (.cells #[.slice a4 2 y4] 29)).alloc (.cells #[.slice a5 2 x5, .slice b5 1 y5] 31)) := ((Below.refl _ _).alloc (Nat.le_refl _) _).alloc (by simp) _
      have HX5 := Lib.hid hX5
      have HX4 := Lib.hid hX4
      clear hX5 hX4 g0 g1
      go_wp2_with fail
      refine (thread (HHV.out _ (HN.out.kept (HX4.out.trans (HX5.out.mono hz4)) (Nat.le_refl _))) w4.heap.size w4 HX5.out HX5.out.size).mono ?_
      rintro e w6 ⟨⟨va, vb, rfl, hva, hvb⟩, hX6, hk6, -, hs6, hz6⟩
      obtain ⟨a7, b7, x7, y7, rfl, -, hu7⟩ := hva
      obtain ⟨a8, b8, x8, y8, rfl, -, hu8⟩ := hvb
      have e1' : (wkC.take 1).length = 1 := by decide
      have e2' : (cutIn wkU [] [4]).length = 2 := by decide
      have e3' : (headless (wkC.drop 1)).length = 1 := by decide
      have e4' : (cutOut wkU [] [4]).length = 1 := by decide
      rw [e4'] at hu8
      rw [e1', e2', e3', e4']
      have HU8 := Lib.hid hu8
      clear hu7 hu8 e1' e2' e3' e4' g0' g1' e0 e1
      simp only [World.size_alloc] at hs6
      have i0 : w6.cell? ⟨w4.heap.size, 0, none⟩ = some (.slice a4 2 y4) := (hk6 w4.heap.size 0 (by simp <;> omega)).trans (cell_past _ (by simp))
      have i1 : w6.cell? ⟨w4.heap.size + 1, 1, none⟩ = some (.slice b5 1 y5) := (hk6 (w4.heap.size + 1) 1 (by simp)).trans (by simp)
      go_upto_region 9 with (fail)
      obtain ⟨W7, hW7⟩ : ∃ W7, W7 = ((w6.alloc (.cells #[.slice a7 1 x7, .slice b7 2 y7] 31)).alloc (.cells #[.slice a8 1 x8, .slice b8 1 y8] 31)) := ⟨_, rfl⟩
      rw [← hW7]
      have hX7 : Below w6.heap.size w6 W7 := by rw [hW7]; go_grown
      have j0 := kept_cell hX7 i0
      have j1 := kept_cell hX7 i1
      have j2 : W7.cell? ⟨w6.heap.size, 0, none⟩ = some (.slice a7 1 x7) := by rw [hW7]; exact cell_past _ (by simp)
      have j3 : W7.cell? ⟨w6.heap.size + 1, 1, none⟩ = some (.slice b8 1 y8) := by rw [hW7]; simp
      have hX47 := hX6.trans (hX7.mono hz6)
      have L1 := Lib.hid (HBX.out.kept hX47 (Nat.le_refl _))
      have L2 := Lib.hid (BoxU.mk ⟨_, rfl, HU5.out.kept hX47 (Nat.le_refl _)⟩)
      have L3 := Lib.hid (BoxU.mk ⟨_, rfl, HU8.out.kept hX7 (Nat.le_refl _)⟩)
      have HE := Lib.hid (hB.trans ((HX4.out.trans (hX47.mono hz4)).mono hB.size))
      clear hW7 hX7 hX47 i0 i1 hX6 hk6 hs6
      have hS4 : (Value.string (S [4])) = .string ⟨#[4]⟩ := rfl
      go_wp2_with fail
      refine (thread (lenU _ _ _ L1.out) W7.heap.size W7 (Below.refl _ _) (Nat.le_refl _)).mono ?_
      rintro e w8 ⟨he, hX8, -, -, -, hz8⟩
      rw [wk_in] at he
      subst he
      have k1 := kept_cell hX8 j1
      have k2 := kept_cell hX8 j2
      have k3 := kept_cell hX8 j3
      clear j0 j1
      go_wp2_with fail
      refine (thread (lenU _ _ _ (L2.out.kept hX8 (Nat.le_refl _))) W7.heap.size W7 hX8 hz8).mono ?_
      rintro e w9 ⟨he, hX9, -, -, -, hz9⟩
      rw [wk_out] at he
      subst he
      have m1 := kept_cell hX9 j2
      have m2 := kept_cell hX9 j3
      clear k1 k2 k3
      go_wp2_with fail
      refine (thread (lenU _ _ _ (L3.out.kept hX9 (Nat.le_refl _))) W7.heap.size W7 hX9 hz9).mono ?_
      rintro e w10 ⟨he, hX10, -, -, -, hz10⟩
      rw [show (cutOut wkU [] [4]).length = 1 by decide] at he
      subst he
      clear m1 m2
      go_wp2_with fail
      go_ret
      exact ⟨rfl, HE.out.trans (hX10.mono HE.out.size)⟩

end Go.Proofs.Ytlmlmkeomlehmaa
