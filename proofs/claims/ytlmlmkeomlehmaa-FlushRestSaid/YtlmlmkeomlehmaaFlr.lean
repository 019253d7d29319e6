/-
  The walk of FlushRest.
-/
import Derived.Test.YtlmlmkeomlehmaaWkf
import Derived.Test.YtlmlmkeomlehmaaFlp
namespace Go.Proofs.Ytlmlmkeomlehmaa
open Go.RowKit
attribute [local go_sem ↓] Go.wp_at_zero Go.wp_at_succ

theorem chd_guard (op : BinOp) (x y : Operand) (xs ys : Array Value) (w : World) : (eqGuard op 100 x y (.agg xs) (.agg ys)).run Try.prog w = .ok () w := run_eqGuard_agg w op _ x y xs ys (by kernel_rfl)
theorem chd_under : Try.prog.underlying 100 = some (.struct (Try.prog.fieldsOf 100)) := by kernel_rfl
theorem chd_held : Try.prog.stoodInHeld 100 = false := by kernel_rfl
theorem chd_neq_same (a : ByteArray) (x y z : Int) (w : World) : (binOp .neq 100 (.agg #[.string a, .int .i64 x, .int .u64 y, .int .u32 z]) (.agg #[.string a, .int .i64 x, .int .u64 y, .int .u32 z])).run Try.prog w = .ok (.bool false) w := by
  rw [run_neq_struct, run_equalIn_agg _ _ _ _ _ chd_under chd_held]
  simp [Program.fieldsOf, Try.underlying100, Op.eqFields, go_sem]
theorem within_yes {k lo hi : List UInt8} (h : withinB k lo hi = true) : Op.bytesLess k lo = false ∧ (hi = [] ∨ (¬ hi = [] ∧ Op.bytesLess k hi = true)) := by
  unfold withinB at h
  simp only [Bool.and_eq_true, Bool.not_eq_true', Bool.or_eq_true, List.isEmpty_iff] at h
  refine ⟨h.1, ?_⟩
  rcases h.2 with h2 | h2
  · exact Or.inl h2
  · by_cases e : hi = []
    · exact Or.inl e
    · exact Or.inr ⟨e, h2⟩
theorem within_no {k lo hi : List UInt8} (h : ¬ withinB k lo hi = true) : Op.bytesLess k lo = true ∨ (Op.bytesLess k lo = false ∧ ¬ hi = [] ∧ Op.bytesLess k hi = false ∧ hi.isEmpty = false) := by
  cases e : Op.bytesLess k lo with
  | true => exact Or.inl rfl
  | false =>
    have hne : ¬ hi = [] := fun e2 => h (by unfold withinB; rw [show bl k lo = false from e, e2]; rfl)
    refine Or.inr ⟨rfl, hne, ?_, by cases hi with | nil => exact absurd rfl hne | cons => rfl⟩
    · cases e3 : Op.bytesLess k hi with
      | false => rfl
      | true => exact absurd (by unfold withinB; rw [show bl k lo = false from e, show bl k hi = true from e3]; simp) h
theorem NodeAt.parts {w : World} {x y : Value} {cs : List Chd} {us : List Upd} (h : NodeAt w (.agg #[x, y]) cs us) : SlC w x cs ∧ SlU w y us := by
  obtain ⟨a, b, u, v, he, h1, h2⟩ := h
  simp only [Value.agg.injEq, Array.mk.injEq, List.cons.injEq, and_true] at he
  obtain ⟨rfl, rfl⟩ := he
  exact ⟨h1, h2⟩

set_option maxRecDepth 100000 in
set_option maxHeartbeats 8000000 in
theorem flushRest_walk (ao : Option Addr) (c : Nat) (lows : List (List UInt8)) (bo : Option Addr) (d : Nat) (l : List Int) (w : World) (hs : StrAt w ao lows) (hc : lows.length ≤ c) (hsl : ∀ s ∈ lows, s.length ≤ 140737488355328)
    (hb : SlAt (fun x : Int => [Value.int .u8 x]) 1 w bo l) (hd : l.length ≤ d) (hx : ∀ x ∈ l, 0 ≤ x ∧ x < 256) :
    Calls Try.prog 10 #[.slice ao lows.length c, .slice bo l.length d] w fun e w' => e = .returned (.bool true) ∧ Below w.heap.size w w' := by
  have hmin := fun ts t a b w => run_tmin (P := Try.prog) ts t a b w
  have hm : tmin (l.length : Int) 60 = ((min l.length 60 : Nat) : Int) := tmin_nat _ 60
  generalize hM : min l.length 60 = m at *
  have hmx : m ≤ l.length := by omega
  have hm60 : m ≤ 60 := by omega
  have hcut := fun W => cut_bytesD bo l.length d m hmx hd W
  have hlt : (l.take m).length = m := by rw [List.length_take]; omega
  have hxx : ∀ x ∈ l.take m, 0 ≤ x ∧ x < 256 := fun x hx' => hx x (List.mem_of_mem_take hx')
  have hbc := hb.cut m
  clear hb hx hM
  generalize l.take m = L at *
  subst hlt
  have HSP := Lib.hid (fun W h => spread_any bo d L W h (by omega) hxx)
  have HS := Lib.hid hs
  have HB := Lib.hid hbc
  clear hs hbc hxx
  go_enter Try.func10, Try.ntmps10
  go_wp2_with fail
  refine (thread (HSP.out _ (HB.out.kept (by go_grown) (Nat.le_refl _))) w.heap.size w (by go_grown) (by go_grown)).mono ?_
  rintro e w1 ⟨⟨v1, rfl, ho1⟩, hB1, hk1, -, hs1, hz1⟩
  obtain ⟨a1, d1, rfl, hof⟩ := of_spread ao c lows v1 _ L _ w1 (HS.out.kept hB1 (Nat.le_refl _)) hc hsl ho1
  have HOF := Lib.hid hof
  clear hof ho1
  go_wp2_with fail
  refine (thread HOF.out w1.heap.size w1 (by go_grown) (by go_grown)).mono ?_
  rintro e w2 ⟨⟨va, vb, rfl, hva, hvb⟩, hX2, -, -, -, hz2⟩
  obtain ⟨a2, b2, y2, z2, rfl, hc2, hu2⟩ := hva
  obtain ⟨a3, b3, y3, z3, rfl, -, -⟩ := hvb
  have HNA := Lib.hid (NodeAt.mk' hc2 hu2)
  have hB2 := hB1.trans (hX2.mono hz1)
  clear hc2 hu2 hX2
  have hCl : 0 < (kids lows).length ∧ (kids lows).length ≤ 21 := by rw [kids_len]; omega
  have hCh := Lib.hid (fun k => chOf_kids lows k)
  have hUl := all_len (sprTo L L.length)
  have hUr := Lib.hid (all_rise (sprTo L L.length))
  generalize kids lows = C at *
  generalize withAll (upds (sprTo L L.length)) = U at *
  obtain ⟨k, hkl, hk, hmx⟩ := top_one (cntAt C U) (by rw [cntAt_len]; omega)
  have HK := Lib.hid (And.intro hk hmx)
  clear hk hmx
  go_wp2_with fail
  obtain ⟨W, hW⟩ : ∃ W, W = ((w2.alloc (.cells #[.slice a2 C.length y2, .slice b2 U.length z2] 31)).alloc (.cells #[.slice a3 C.length y3, .slice b3 U.length z3] 35)) := ⟨_, rfl⟩
  rw [← hW]
  have hXW : Below w2.heap.size w2 W := by rw [hW]; go_grown
  have n0 : W.cell? ⟨w2.heap.size, 0, none⟩ = some (.slice a2 C.length y2) := by rw [hW, World.cell?_alloc_past _ _ _ (by simp <;> omega), World.cell?_alloc_at _ _ _ _ rfl]; rfl
  have n1 : W.cell? ⟨w2.heap.size, 1, none⟩ = some (.slice b2 U.length z2) := by rw [hW, World.cell?_alloc_past _ _ _ (by simp <;> omega), World.cell?_alloc_at _ _ _ _ rfl]; rfl
  have HN := Lib.hid (HNA.out.kept hXW (Nat.le_refl _))
  have hBW := hB2.trans (hXW.mono (by omega))
  clear hW hXW HNA
  have hkC : k < C.length := by rw [← cntAt_len C U]; exact hkl
  by_cases hc1 : (cntAt C U)[k] < 1
  · have HU0 := Lib.hid (cnt_none C U (fun u _ => hCh.out u.key) (fun x hx => by have := HK.out.2 x hx; omega))
    refine (thread (step_none _ C U W HN.out (by omega) (by omega) k HK.out.1 hkl hc1) W.heap.size W (Below.refl _ _) (Nat.le_refl _)).mono ?_
    rintro e w3 ⟨rfl, hX3, -, -, -, hz3⟩
    have m0 := kept_cell hX3 n0
    have m1 := kept_cell hX3 n1
    have hB3 := hBW.trans (hX3.mono hBW.size)
    have HN3 := Lib.hid (HN.out.kept hX3 (Nat.le_refl _))
    clear n0 n1 hX3
    go_upto_region 4 with (fail)
    obtain ⟨W4, hW4⟩ : ∃ W4, W4 = ((w3.alloc (.cells #[.slice none 0 0] 29)).alloc (.cells #[.slice none 0 0, .slice none 0 0] 31)) := ⟨_, rfl⟩
    rw [← hW4]
    have hX4 : Below w3.heap.size w3 W4 := by rw [hW4]; go_grown
    have n1 := kept_cell hX4 m1
    have hB4 := hB3.trans (hX4.mono hB3.size)
    have HN4 := Lib.hid (HN3.out.kept hX4 (Nat.le_refl _))
    clear m0 m1 hX4 hW4 HN3 HN
    go_wp2_with fail
    refine (thread (wakes20_any _) W4.heap.size W4 (Below.refl _ _) (Nat.le_refl _)).mono ?_
    rintro e w5 ⟨rfl, hX5, -, -, -, hz5⟩
    have m1 := kept_cell hX5 n1
    have hsl : SlU w5 (.slice b2 U.length z2) U := HN4.out.parts.2.kept hX5 (Nat.le_refl _)
    have HL := Lib.hid (BoxU.mk ⟨_, rfl, hsl⟩)
    have hB5 := hB4.trans (hX5.mono hB4.size)
    clear n1 hX5 hsl
    go_wp2_with fail
    refine (thread (lenU _ _ _ HL.out) w5.heap.size w5 (Below.refl _ _) (Nat.le_refl _)).mono ?_
    rintro e w6 ⟨rfl, hX6, -, -, -, hz6⟩
    have hu0 : U.length = 0 := by rw [HU0.out]; rfl
    go_wp2_with fail
    go_ret
    exact ⟨rfl, hB5.trans (hX6.mono hB5.size)⟩
  · refine (thread (step_some _ C U W HN.out (by omega) (by omega) hUr.out k HK.out.1 hkl hc1) W.heap.size W (Below.refl _ _) (Nat.le_refl _)).mono ?_
    rintro e w3 ⟨⟨a4, y4, nv, rfl, hbx, hnv⟩, hX3, -, -, -, hz3⟩
    obtain ⟨a5, b5, x5, y5, rfl, hc5, hu5⟩ := hnv
    have HBX := Lib.hid hbx
    have HN5 := Lib.hid (NodeAt.mk' hc5 hu5)
    have m0 := kept_cell hX3 n0
    have m1 := kept_cell hX3 n1
    have hB3 := hBW.trans (hX3.mono hBW.size)
    have HN3 := Lib.hid (HN.out.kept hX3 (Nat.le_refl _))
    clear n0 n1 hX3 hbx hc5 hu5
    go_upto_region 5 with (fail)
    generalize hlo : rngLow C (k : Int) = lo at *
    generalize hhi : rngHigh C (k : Int) = hi at *
    have HRG := Lib.hid (fun W h => range_any (.agg #[.slice a2 C.length y2, .slice b2 U.length z2]) C U (k : Int) W h (by omega) (by omega))
    rw [hlo, hhi] at HRG
    have HGT := Lib.hid (fun j hj => get_cut hUr.out lo hi j hj)
    have HTW := Lib.hid (cut_two hUr.out lo hi)
    have HUI := Lib.hid (And.intro (cutIn_rising hUr.out lo hi) (cutIn_le hUr.out lo hi))
    have HUO := Lib.hid (And.intro (cutOut_rising hUr.out lo hi) (cutOut_le hUr.out lo hi))
    clear hlo hhi
    generalize cutIn U lo hi = UI at *
    generalize cutOut U lo hi = UO at *
    obtain ⟨W4, hW4⟩ : ∃ W4, W4 = ((w3.alloc (.cells #[.slice a4 UI.length y4] 29)).alloc (.cells #[.slice a5 C.length x5, .slice b5 UO.length y5] 31)) := ⟨_, rfl⟩
    rw [← hW4]
    have hX4 : Below w3.heap.size w3 W4 := by rw [hW4]; go_grown
    have n0 := kept_cell hX4 m0
    have n1 := kept_cell hX4 m1
    have p0 : W4.cell? ⟨w3.heap.size, 0, none⟩ = some (.slice a4 UI.length y4) := by rw [hW4]; exact cell_past _ (by simp)
    have q0 : W4.cell? ⟨w3.heap.size + 1, 0, none⟩ = some (.slice a5 C.length x5) := by rw [hW4]; simp
    have q1 : W4.cell? ⟨w3.heap.size + 1, 1, none⟩ = some (.slice b5 UO.length y5) := by rw [hW4]; simp
    have hB4 := hB3.trans (hX4.mono hB3.size)
    have HN4 := Lib.hid (HN3.out.kept hX4 (Nat.le_refl _))
    have HR4 := Lib.hid (HN5.out.kept hX4 (Nat.le_refl _))
    have HI4 := Lib.hid (HBX.out.kept hX4 (Nat.le_refl _))
    clear m0 m1 hX4 hW4 HN3 HN5 HBX HN
    go_wp2_with fail
    refine (thread (HRG.out W4 HN4.out) W4.heap.size W4 (Below.refl _ _) (Nat.le_refl _)).mono ?_
    rintro e w5 ⟨rfl, hX5, -, -, -, hz5⟩
    have k0 := kept_cell hX5 n0
    have k1 := kept_cell hX5 n1
    have hLX : BoxU w5 (.agg #[.slice b2 U.length z2]) U := BoxU.mk ⟨_, rfl, HN4.out.parts.2.kept hX5 (Nat.le_refl _)⟩
    have HLS := Lib.hid (fun h => list_next b2 U.length z2 U w5 rfl h (by omega))
    have HLX := Lib.hid hLX
    clear hLX
    go_wp2_with fail
    refine (thread (HLS.out HLX.out) w5.heap.size w5 (Below.refl _ _) (Nat.le_refl _)).mono ?_
    rintro e w6 ⟨⟨a6, c6, rfl, hown⟩, hX6, -, -, -, hz6⟩
    have hX46 := hX5.trans (hX6.mono hz5)
    have g0 := kept_cell hX46 n0
    have g1 := kept_cell hX46 n1
    have f0 := kept_cell hX46 p0
    have e0 := kept_cell hX46 q0
    have e1 := kept_cell hX46 q1
    have HN6 := Lib.hid (HN4.out.kept hX46 (Nat.le_refl _))
    have HR6 := Lib.hid (HR4.out.kept hX46 (Nat.le_refl _))
    have HI6 := Lib.hid (HI4.out.kept hX46 (Nat.le_refl _))
    have hB6 := hB4.trans (hX46.mono hB4.size)
    have HRW := Lib.hid (SlU.of_own hown).2
    clear hown hX46 hX5 hX6 n0 n1 p0 q0 q1 k0 k1 HLX HLS HN4 HR4 HI4 HRG
    go_wp2_with fail
    go_loopw [58] (fun i wr => ∃ (j : Nat), i = .int .i64 j ∧ j ≤ U.length ∧ Below w6.heap.size w6 wr) (fun i _ => U.length - (intOf i).toNat)
    case atStart => exact ⟨0, rfl, by omega, Below.refl _ _⟩
    case round =>
      obtain ⟨j, rfl, hj, hX⟩ := hrel
      have hj0 : (0 : Int) ≤ (j : Int) := Int.natCast_nonneg _
      have hz := hX.size
      have g0' := kept_cell hX g0
      have g1' := kept_cell hX g1
      have f0' := kept_cell hX f0
      have e0' := kept_cell hX e0
      have e1' := kept_cell hX e1
      have hB7 := hB6.trans (hX.mono hB6.size)
      by_cases hjl : j < U.length
      · have hj1 : (j : Int) < (U.length : Int) := by omega
        obtain ⟨b, off, rfl, hb, z0, z1, z2, z3⟩ := (HRW.out.kept hX (Nat.le_refl _)).cells4 j hjl
        have HI7 := Lib.hid (HI6.out.kept hX (Nat.le_refl _))
        have HR7 := Lib.hid (HR6.out.kept hX (Nat.le_refl _))
        have HG := Lib.hid (HGT.out j hjl)
        have HX7 := Lib.hid hX
        clear hX g0 g1 f0 e0 e1
        generalize U[j] = u at *
        go_upto_region 9 with (fail)
        obtain ⟨W7, hW7⟩ : ∃ W7, W7 = wr.alloc (.cells #[.int .u8 u.kind, .string (S u.key), .string (S u.val), .int .u64 u.delta] 67) := ⟨_, rfl⟩
        rw [← hW7]
        have hX8 : Below wr.heap.size wr W7 := by rw [hW7]; go_grown
        have u0 : W7.cell? ⟨wr.heap.size, 0, none⟩ = some (.int .u8 u.kind) := by rw [hW7, World.cell?_alloc_at _ _ _ _ rfl]; rfl
        have u1 : W7.cell? ⟨wr.heap.size, 1, none⟩ = some (.string (S u.key)) := by rw [hW7, World.cell?_alloc_at _ _ _ _ rfl]; rfl
        have u2 : W7.cell? ⟨wr.heap.size, 2, none⟩ = some (.string (S u.val)) := by rw [hW7, World.cell?_alloc_at _ _ _ _ rfl]; rfl
        have u3 : W7.cell? ⟨wr.heap.size, 3, none⟩ = some (.int .u64 u.delta) := by rw [hW7, World.cell?_alloc_at _ _ _ _ rfl]; rfl
        have f0 := kept_cell hX8 f0'
        have e0 := kept_cell hX8 e0'
        have e1 := kept_cell hX8 e1'
        have HI8 := Lib.hid (HI7.out.kept hX8 (Nat.le_refl _))
        have HR8 := Lib.hid (HR7.out.kept hX8 (Nat.le_refl _))
        have hX68 := HX7.out.trans (hX8.mono hz)
        have hz8 := hX68.size
        have HX8 := Lib.hid hX68
        clear hX68 hX8 hW7 z0 z1 z2 z3 HI7 HR7 f0' e0' e1' g0' g1'
        have HGI := Lib.hid (fun W h => get_any (.agg #[.slice a4 UI.length y4]) UI u.key W h (by have := HUI.out.2; omega) HUI.out.1)
        have HGO := Lib.hid (fun W h => get_any (.agg #[.slice b5 UO.length y5]) UO u.key W h (by have := HUO.out.2; omega) HUO.out.1)
        rw [HG.out.1] at HGI
        rw [HG.out.2] at HGO
        by_cases hwb : withinB u.key lo hi = true
        · rw [if_pos hwb] at HGI HGO
          go_wp2_with fail
          refine (thread (HGI.out _ HI8.out) W7.heap.size W7 (Below.refl _ _) (Nat.le_refl _)).mono ?_
          rintro e w8 ⟨rfl, hX9, -, -, -, hz9⟩
          simp only [getV, updV]
          have v0 := kept_cell hX9 u0
          have v1 := kept_cell hX9 u1
          have v2 := kept_cell hX9 u2
          have v3 := kept_cell hX9 u3
          have r0 := kept_cell hX9 e0
          have r1 := kept_cell hX9 e1
          have HR9 := Lib.hid (HR8.out.kept hX9 (Nat.le_refl _))
          have HX9 := Lib.hid (HX8.out.trans (hX9.mono hz8))
          clear u0 u1 u2 u3 e0 e1 f0 HX8 HR8 hX9
          go_upto_region 10 with (fail)
          obtain ⟨W9, hW9⟩ : ∃ W9, W9 = w8.alloc (.cells #[.int .u8 u.kind, .string (S u.key), .string (S u.val), .int .u64 u.delta] 67) := ⟨_, rfl⟩
          rw [← hW9]
          have hX10 : Below w8.heap.size w8 W9 := by rw [hW9]; go_grown
          have a0 : W9.cell? ⟨w8.heap.size, 0, none⟩ = some (.int .u8 u.kind) := by rw [hW9, World.cell?_alloc_at _ _ _ _ rfl]; rfl
          have a1' : W9.cell? ⟨w8.heap.size, 1, none⟩ = some (.string (S u.key)) := by rw [hW9, World.cell?_alloc_at _ _ _ _ rfl]; rfl
          have a2' : W9.cell? ⟨w8.heap.size, 2, none⟩ = some (.string (S u.val)) := by rw [hW9, World.cell?_alloc_at _ _ _ _ rfl]; rfl
          have a3' : W9.cell? ⟨w8.heap.size, 3, none⟩ = some (.int .u64 u.delta) := by rw [hW9, World.cell?_alloc_at _ _ _ _ rfl]; rfl
          have u0 := kept_cell hX10 v0
          have u1 := kept_cell hX10 v1
          have u2 := kept_cell hX10 v2
          have u3 := kept_cell hX10 v3
          have e0 := kept_cell hX10 r0
          have e1 := kept_cell hX10 r1
          have HR10 := Lib.hid (BoxU.mk ⟨_, rfl, (HR9.out.kept hX10 (Nat.le_refl _)).parts.2⟩)
          have hX69 := HX9.out.trans (hX10.mono HX9.out.size)
          have hz10 := hX69.size
          have HX10 := Lib.hid hX69
          clear v0 v1 v2 v3 r0 r1 hW9 hX10 hX69 HX9 HR9
          go_wp2_with fail
          refine (thread (HGO.out _ HR10.out) W9.heap.size W9 (Below.refl _ _) (Nat.le_refl _)).mono ?_
          rintro e w11 ⟨rfl, hX11, -, -, -, hz11⟩
          simp only [getV, updV]
          have v0 := kept_cell hX11 u0
          have v1 := kept_cell hX11 u1
          have v2 := kept_cell hX11 u2
          have v3 := kept_cell hX11 u3
          have c0 := kept_cell hX11 a0
          have c1 := kept_cell hX11 a1'
          have c2 := kept_cell hX11 a2'
          have c3 := kept_cell hX11 a3'
          have hX12 := HX10.out.trans (hX11.mono hz10)
          have HX12 := Lib.hid hX12
          have hz12 := hX12.size
          clear u0 u1 u2 u3 e0 e1 a0 a1' a2' a3' hX11 hX12 HX10 HR10
          go_upto_region 11 with (fail)
          obtain ⟨W12, hW12⟩ : ∃ W12, W12 = w11.alloc (.cells #[.int .u8 0, .string (S []), .string (S []), .int .u64 0] 67) := ⟨_, rfl⟩
          rw [← hW12]
          have hX13 : Below w11.heap.size w11 W12 := by rw [hW12]; go_grown
          have a0 : W12.cell? ⟨w11.heap.size, 0, none⟩ = some (.int .u8 0) := by rw [hW12, World.cell?_alloc_at _ _ _ _ rfl]; rfl
          have a1' : W12.cell? ⟨w11.heap.size, 1, none⟩ = some (.string (S [])) := by rw [hW12, World.cell?_alloc_at _ _ _ _ rfl]; rfl
          have a2' : W12.cell? ⟨w11.heap.size, 2, none⟩ = some (.string (S [])) := by rw [hW12, World.cell?_alloc_at _ _ _ _ rfl]; rfl
          have a3' : W12.cell? ⟨w11.heap.size, 3, none⟩ = some (.int .u64 0) := by rw [hW12, World.cell?_alloc_at _ _ _ _ rfl]; rfl
          have u0 := kept_cell hX13 v0
          have u1 := kept_cell hX13 v1
          have u2 := kept_cell hX13 v2
          have u3 := kept_cell hX13 v3
          have b0 := kept_cell hX13 c0
          have b1 := kept_cell hX13 c1
          have b2 := kept_cell hX13 c2
          have b3 := kept_cell hX13 c3
          have HX13 := Lib.hid (HX12.out.trans (hX13.mono hz12))
          clear v0 v1 v2 v3 c0 c1 c2 c3 hX13 HX12 hW12
          have hug := fun op x y xs ys W => upd_guard op x y xs ys W
          have hun := fun W => upd_neq_same u.kind u.delta (S u.key) (S u.val) W
          obtain ⟨hA, hO⟩ := within_yes hwb
          rcases hO with hO | ⟨hO, hB⟩
          · go_wp2_with fail
            exact ⟨⟨j + 1, by go_num, by omega, HX13.out⟩, by simp [intOf]; omega⟩
          · go_wp2_with fail
            exact ⟨⟨j + 1, by go_num, by omega, HX13.out⟩, by simp [intOf]; omega⟩
        · rw [if_neg hwb] at HGI HGO
          go_wp2_with fail
          refine (thread (HGI.out _ HI8.out) W7.heap.size W7 (Below.refl _ _) (Nat.le_refl _)).mono ?_
          rintro e w8 ⟨rfl, hX9, -, -, -, hz9⟩
          simp only [getV, updV]
          have v0 := kept_cell hX9 u0
          have v1 := kept_cell hX9 u1
          have v2 := kept_cell hX9 u2
          have v3 := kept_cell hX9 u3
          have r0 := kept_cell hX9 e0
          have r1 := kept_cell hX9 e1
          have HR9 := Lib.hid (HR8.out.kept hX9 (Nat.le_refl _))
          have HX9 := Lib.hid (HX8.out.trans (hX9.mono hz8))
          clear u0 u1 u2 u3 e0 e1 f0 HX8 HR8 hX9
          go_upto_region 10 with (fail)
          obtain ⟨W9, hW9⟩ : ∃ W9, W9 = w8.alloc (.cells #[.int .u8 0, .string (S []), .string (S []), .int .u64 0] 67) := ⟨_, rfl⟩
          rw [← hW9]
          have hX10 : Below w8.heap.size w8 W9 := by rw [hW9]; go_grown
          have a0 : W9.cell? ⟨w8.heap.size, 0, none⟩ = some (.int .u8 0) := by rw [hW9, World.cell?_alloc_at _ _ _ _ rfl]; rfl
          have a1' : W9.cell? ⟨w8.heap.size, 1, none⟩ = some (.string (S [])) := by rw [hW9, World.cell?_alloc_at _ _ _ _ rfl]; rfl
          have a2' : W9.cell? ⟨w8.heap.size, 2, none⟩ = some (.string (S [])) := by rw [hW9, World.cell?_alloc_at _ _ _ _ rfl]; rfl
          have a3' : W9.cell? ⟨w8.heap.size, 3, none⟩ = some (.int .u64 0) := by rw [hW9, World.cell?_alloc_at _ _ _ _ rfl]; rfl
          have u0 := kept_cell hX10 v0
          have u1 := kept_cell hX10 v1
          have u2 := kept_cell hX10 v2
          have u3 := kept_cell hX10 v3
          have e0 := kept_cell hX10 r0
          have e1 := kept_cell hX10 r1
          have HR10 := Lib.hid (BoxU.mk ⟨_, rfl, (HR9.out.kept hX10 (Nat.le_refl _)).parts.2⟩)
          have hX69 := HX9.out.trans (hX10.mono HX9.out.size)
          have hz10 := hX69.size
          have HX10 := Lib.hid hX69
          clear v0 v1 v2 v3 r0 r1 hW9 hX10 hX69 HX9 HR9
          go_wp2_with fail
          refine (thread (HGO.out _ HR10.out) W9.heap.size W9 (Below.refl _ _) (Nat.le_refl _)).mono ?_
          rintro e w11 ⟨rfl, hX11, -, -, -, hz11⟩
          simp only [getV, updV]
          have v0 := kept_cell hX11 u0
          have v1 := kept_cell hX11 u1
          have v2 := kept_cell hX11 u2
          have v3 := kept_cell hX11 u3
          have c0 := kept_cell hX11 a0
          have c1 := kept_cell hX11 a1'
          have c2 := kept_cell hX11 a2'
          have c3 := kept_cell hX11 a3'
          have hX12 := HX10.out.trans (hX11.mono hz10)
          have HX12 := Lib.hid hX12
          have hz12 := hX12.size
          clear u0 u1 u2 u3 e0 e1 a0 a1' a2' a3' hX11 hX12 HX10 HR10
          go_upto_region 11 with (fail)
          obtain ⟨W12, hW12⟩ : ∃ W12, W12 = w11.alloc (.cells #[.int .u8 u.kind, .string (S u.key), .string (S u.val), .int .u64 u.delta] 67) := ⟨_, rfl⟩
          rw [← hW12]
          have hX13 : Below w11.heap.size w11 W12 := by rw [hW12]; go_grown
          have a0 : W12.cell? ⟨w11.heap.size, 0, none⟩ = some (.int .u8 u.kind) := by rw [hW12, World.cell?_alloc_at _ _ _ _ rfl]; rfl
          have a1' : W12.cell? ⟨w11.heap.size, 1, none⟩ = some (.string (S u.key)) := by rw [hW12, World.cell?_alloc_at _ _ _ _ rfl]; rfl
          have a2' : W12.cell? ⟨w11.heap.size, 2, none⟩ = some (.string (S u.val)) := by rw [hW12, World.cell?_alloc_at _ _ _ _ rfl]; rfl
          have a3' : W12.cell? ⟨w11.heap.size, 3, none⟩ = some (.int .u64 u.delta) := by rw [hW12, World.cell?_alloc_at _ _ _ _ rfl]; rfl
          have u0 := kept_cell hX13 v0
          have u1 := kept_cell hX13 v1
          have u2 := kept_cell hX13 v2
          have u3 := kept_cell hX13 v3
          have b0 := kept_cell hX13 c0
          have b1 := kept_cell hX13 c1
          have b2 := kept_cell hX13 c2
          have b3 := kept_cell hX13 c3
          have HX13 := Lib.hid (HX12.out.trans (hX13.mono hz12))
          clear v0 v1 v2 v3 c0 c1 c2 c3 hX13 HX12 hW12
          have hug := fun op x y xs ys W => upd_guard op x y xs ys W
          have hun := fun W => upd_neq_same u.kind u.delta (S u.key) (S u.val) W
          rcases within_no hwb with hA | ⟨hA, hO, hB, hE⟩
          · go_wp2_with fail
            exact ⟨⟨j + 1, by go_num, by omega, HX13.out⟩, by simp [intOf]; omega⟩
          · go_wp2_with fail
            exact ⟨⟨j + 1, by go_num, by omega, HX13.out⟩, by simp [intOf]; omega⟩
      · obtain rfl : j = U.length := by omega
        have HN7 := Lib.hid (HN6.out.kept hX (Nat.le_refl _))
        have HR7 := Lib.hid (HR6.out.kept hX (Nat.le_refl _))
        have HI7 := Lib.hid (HI6.out.kept hX (Nat.le_refl _))
        clear hX g0 g1 f0 e0 e1 HN6 HR6 HI6 HRW
        have hX7 := hB7
        obtain ⟨wq, hwq⟩ : ∃ wq, wq = wr := ⟨_, rfl⟩
        subst hwq
        go_wp2_with fail
        go_loopw [118] (fun i wr => ∃ (j : Nat), i = .int .i64 j ∧ j ≤ C.length ∧ Below wq.heap.size wq wr) (fun i _ => C.length - (intOf i).toNat)
        case atStart => exact ⟨0, rfl, by omega, Below.refl _ _⟩
        case round =>
          obtain ⟨j, rfl, hj', hX⟩ := hrel
          have hj0' : (0 : Int) ≤ (j : Int) := Int.natCast_nonneg _
          have hzq := hX.size
          have g0 := kept_cell hX g0'
          have g1 := kept_cell hX g1'
          have f0 := kept_cell hX f0'
          have e0 := kept_cell hX e0'
          have e1 := kept_cell hX e1'
          by_cases hjl : j < C.length
          · have hj1 : (j : Int) < (C.length : Int) := by omega
            obtain ⟨b, off, rfl, hb, z0, z1, z2, z3⟩ := (HR7.out.parts.1.kept hX (Nat.le_refl _)).at.cells4C j hjl
            obtain ⟨b', off', rfl, hb', y0, y1, y2, y3⟩ := (HN7.out.parts.1.kept hX (Nat.le_refl _)).at.cells4C j hjl
            have HX7 := Lib.hid hX
            clear hX g0' g1' f0' e0' e1' f0
            generalize C[j] = u at *
            go_upto_region 17 with (fail)
            obtain ⟨W7, hW7⟩ : ∃ W7, W7 = wr.alloc (.cells #[.string (S u.low), .int .i64 u.addr, .int .u64 u.gen, .int .u32 u.sum] 100) := ⟨_, rfl⟩
            rw [← hW7]
            have hX8 : Below wr.heap.size wr W7 := by rw [hW7]; go_grown
            have u0 : W7.cell? ⟨wr.heap.size, 0, none⟩ = some (.string (S u.low)) := by rw [hW7, World.cell?_alloc_at _ _ _ _ rfl]; rfl
            have u1 : W7.cell? ⟨wr.heap.size, 1, none⟩ = some (.int .i64 u.addr) := by rw [hW7, World.cell?_alloc_at _ _ _ _ rfl]; rfl
            have u2 : W7.cell? ⟨wr.heap.size, 2, none⟩ = some (.int .u64 u.gen) := by rw [hW7, World.cell?_alloc_at _ _ _ _ rfl]; rfl
            have u3 : W7.cell? ⟨wr.heap.size, 3, none⟩ = some (.int .u32 u.sum) := by rw [hW7, World.cell?_alloc_at _ _ _ _ rfl]; rfl
            have x0 := kept_cell hX8 y0
            have x1 := kept_cell hX8 y1
            have x2 := kept_cell hX8 y2
            have x3 := kept_cell hX8 y3
            have p0 := kept_cell hX8 g0
            have HX8 := Lib.hid (HX7.out.trans (hX8.mono hzq))
            clear y0 y1 y2 y3 z0 z1 z2 z3 hX8 hW7 g0 g1 e0 e1
            have hug := fun op x y xs ys W => chd_guard op x y xs ys W
            have hun := fun W => chd_neq_same (S u.low) u.addr u.gen u.sum W
            go_region
            go_wp2_with fail
            exact ⟨⟨j + 1, by go_num, by omega, HX8.out.drew⟩, by simp [intOf]; omega⟩
          · obtain rfl : j = C.length := by omega
            have HN8 := Lib.hid (HN7.out.kept hX (Nat.le_refl _))
            have HR8 := Lib.hid (HR7.out.kept hX (Nat.le_refl _))
            have HI8 := Lib.hid (HI7.out.kept hX (Nat.le_refl _))
            have hB8 := hB7.trans (hX.mono hB7.size)
            clear hX g0' g1' f0' e0' e1' HN7 HR7 HI7
            go_upto_region 20 with (fail)
            refine WQ.region (C := fun w' => Below wr.heap.size wr w') (by kernel_rfl) (by kernel_rfl) (below_drew' (Below.refl _ _)) ?_
            refine WQ.want (by rfl) (fun K hK => ?_)
            refine ⟨.bool true, fun w' hw' => ?_, hK _ ?_⟩
            · have hq' := hw'
              go_simp
              go_at_call 39
              refine (wakes20_any _).mono ?_
              rintro e w6 ⟨he, hb6⟩
              exact ⟨he, hq'.trans (hb6.mono hq'.size)⟩
            clear hK K
            (try simp only [Act.put, List.setIfInBounds_toArray, List.set_cons_zero, List.set_cons_succ])
            refine WQ.want (by rfl) (fun K hK => ?_)
            refine ⟨.bool true, fun w' hw' => ?_, hK _ ?_⟩
            · have hq' := hw'
              go_simp
            clear hK K
            (try simp only [Act.put, List.setIfInBounds_toArray, List.set_cons_zero, List.set_cons_succ])
            refine WQ.want (by rfl) (fun K hK => ?_)
            refine ⟨.agg #[.slice a4 UI.length y4], fun w' hw' => ?_, hK _ ?_⟩
            · have hq' := hw'
              have z0 := kept_cell hw' g0; have z1 := kept_cell hw' g1; have z2 := kept_cell hw' f0; have z3 := kept_cell hw' e0; have z4 := kept_cell hw' e1; go_simp
            clear hK K
            (try simp only [Act.put, List.setIfInBounds_toArray, List.set_cons_zero, List.set_cons_succ])
            refine WQ.want (by rfl) (fun K hK => ?_)
            refine ⟨.int .i64 UI.length, fun w' hw' => ?_, hK _ ?_⟩
            · have hq' := hw'
              go_simp
              go_at_call 26
              refine (lenU _ UI _ (HI8.out.kept hq' (Nat.le_refl _))).mono ?_
              rintro e w6 ⟨he, hb6⟩
              exact ⟨he, hq'.trans (hb6.mono hq'.size)⟩
            clear hK K
            (try simp only [Act.put, List.setIfInBounds_toArray, List.set_cons_zero, List.set_cons_succ])
            refine WQ.want (by rfl) (fun K hK => ?_)
            refine ⟨.pointer (some ⟨w3.heap.size + 1, 1, none⟩), fun w' hw' => ?_, hK _ ?_⟩
            · have hq' := hw'
              go_simp
            clear hK K
            (try simp only [Act.put, List.setIfInBounds_toArray, List.set_cons_zero, List.set_cons_succ])
            refine WQ.want (by rfl) (fun K hK => ?_)
            refine ⟨.agg #[.slice b5 UO.length y5], fun w' hw' => ?_, hK _ ?_⟩
            · have hq' := hw'
              have z0 := kept_cell hw' g0; have z1 := kept_cell hw' g1; have z2 := kept_cell hw' f0; have z3 := kept_cell hw' e0; have z4 := kept_cell hw' e1; go_simp
            clear hK K
            (try simp only [Act.put, List.setIfInBounds_toArray, List.set_cons_zero, List.set_cons_succ])
            refine WQ.want (by rfl) (fun K hK => ?_)
            refine ⟨.int .i64 UO.length, fun w' hw' => ?_, hK _ ?_⟩
            · have hq' := hw'
              go_simp
              go_at_call 26
              refine (lenU _ UO _ (BoxU.mk ⟨_, rfl, HR8.out.parts.2.kept hq' (Nat.le_refl _)⟩)).mono ?_
              rintro e w6 ⟨he, hb6⟩
              exact ⟨he, hq'.trans (hb6.mono hq'.size)⟩
            clear hK K
            (try simp only [Act.put, List.setIfInBounds_toArray, List.set_cons_zero, List.set_cons_succ])
            refine WQ.want (by rfl) (fun K hK => ?_)
            refine ⟨.int .i64 U.length, fun w' hw' => ?_, hK _ ?_⟩
            · have hq' := hw'
              have z0 := kept_cell hw' g0; have z1 := kept_cell hw' g1; have z2 := kept_cell hw' f0; have z3 := kept_cell hw' e0; have z4 := kept_cell hw' e1; (have hT := HTW.out; have hw := IntWalk.i64_in ((UI.length : Int) + (UO.length : Int)) (by omega)); go_simp; omega
            clear hK K
            (try simp only [Act.put, List.setIfInBounds_toArray, List.set_cons_zero, List.set_cons_succ])
            refine WQ.want (by rfl) (fun K hK => ?_)
            refine ⟨.pointer (some ⟨w2.heap.size, 1, none⟩), fun w' hw' => ?_, hK _ ?_⟩
            · have hq' := hw'
              go_simp
            clear hK K
            (try simp only [Act.put, List.setIfInBounds_toArray, List.set_cons_zero, List.set_cons_succ])
            refine WQ.want (by rfl) (fun K hK => ?_)
            refine ⟨.agg #[.slice b2 U.length z2], fun w' hw' => ?_, hK _ ?_⟩
            · have hq' := hw'
              have z0 := kept_cell hw' g0; have z1 := kept_cell hw' g1; have z2 := kept_cell hw' f0; have z3 := kept_cell hw' e0; have z4 := kept_cell hw' e1; go_simp
            clear hK K
            (try simp only [Act.put, List.setIfInBounds_toArray, List.set_cons_zero, List.set_cons_succ])
            refine WQ.want (by rfl) (fun K hK => ?_)
            refine ⟨.int .i64 U.length, fun w' hw' => ?_, hK _ ?_⟩
            · have hq' := hw'
              go_simp
              go_at_call 26
              refine (lenU _ U _ (BoxU.mk ⟨_, rfl, HN8.out.parts.2.kept hq' (Nat.le_refl _)⟩)).mono ?_
              rintro e w6 ⟨he, hb6⟩
              exact ⟨he, hq'.trans (hb6.mono hq'.size)⟩
            clear hK K
            (try simp only [Act.put, List.setIfInBounds_toArray, List.set_cons_zero, List.set_cons_succ])
            refine WQ.want (by rfl) (fun K hK => ?_)
            refine ⟨.bool true, fun w' hw' => ?_, hK _ ?_⟩
            · have hq' := hw'
              go_simp
            clear hK K
            (try simp only [Act.put, List.setIfInBounds_toArray, List.set_cons_zero, List.set_cons_succ])
            refine WQ.want (by rfl) (fun K hK => ?_)
            refine ⟨.bool true, fun w' hw' => ?_, hK _ ?_⟩
            · have hq' := hw'
              go_simp
            clear hK K
            (try simp only [Act.put, List.setIfInBounds_toArray, List.set_cons_zero, List.set_cons_succ])
            refine WQ.want (by rfl) (fun K hK => ?_)
            refine ⟨.bool true, fun w' hw' => ?_, hK _ ?_⟩
            · have hq' := hw'
              go_simp
            clear hK K
            (try simp only [Act.put, List.setIfInBounds_toArray, List.set_cons_zero, List.set_cons_succ])
            refine WQ.want (by rfl) (fun K hK => ?_)
            refine ⟨.pointer (some ⟨w3.heap.size + 1, 0, none⟩), fun w' hw' => ?_, hK _ ?_⟩
            · have hq' := hw'
              go_simp
            clear hK K
            (try simp only [Act.put, List.setIfInBounds_toArray, List.set_cons_zero, List.set_cons_succ])
            refine WQ.want (by rfl) (fun K hK => ?_)
            refine ⟨.slice a5 C.length x5, fun w' hw' => ?_, hK _ ?_⟩
            · have hq' := hw'
              have z0 := kept_cell hw' g0; have z1 := kept_cell hw' g1; have z2 := kept_cell hw' f0; have z3 := kept_cell hw' e0; have z4 := kept_cell hw' e1; go_simp
            clear hK K
            (try simp only [Act.put, List.setIfInBounds_toArray, List.set_cons_zero, List.set_cons_succ])
            refine WQ.want (by rfl) (fun K hK => ?_)
            refine ⟨.int .i64 C.length, fun w' hw' => ?_, hK _ ?_⟩
            · have hq' := hw'
              go_simp
            clear hK K
            (try simp only [Act.put, List.setIfInBounds_toArray, List.set_cons_zero, List.set_cons_succ])
            refine WQ.want (by rfl) (fun K hK => ?_)
            refine ⟨.pointer (some ⟨w2.heap.size, 0, none⟩), fun w' hw' => ?_, hK _ ?_⟩
            · have hq' := hw'
              go_simp
            clear hK K
            (try simp only [Act.put, List.setIfInBounds_toArray, List.set_cons_zero, List.set_cons_succ])
            refine WQ.want (by rfl) (fun K hK => ?_)
            refine ⟨.slice a2 C.length y2, fun w' hw' => ?_, hK _ ?_⟩
            · have hq' := hw'
              have z0 := kept_cell hw' g0; have z1 := kept_cell hw' g1; have z2 := kept_cell hw' f0; have z3 := kept_cell hw' e0; have z4 := kept_cell hw' e1; go_simp
            clear hK K
            (try simp only [Act.put, List.setIfInBounds_toArray, List.set_cons_zero, List.set_cons_succ])
            refine WQ.want (by rfl) (fun K hK => ?_)
            refine ⟨.int .i64 C.length, fun w' hw' => ?_, hK _ ?_⟩
            · have hq' := hw'
              go_simp
            clear hK K
            (try simp only [Act.put, List.setIfInBounds_toArray, List.set_cons_zero, List.set_cons_succ])
            refine WQ.want (by rfl) (fun K hK => ?_)
            refine ⟨.bool true, fun w' hw' => ?_, hK _ ?_⟩
            · have hq' := hw'
              go_simp
            clear hK K
            (try simp only [Act.put, List.setIfInBounds_toArray, List.set_cons_zero, List.set_cons_succ])
            refine WQ.want (by rfl) (fun K hK => ?_)
            refine ⟨.bool true, fun w' hw' => ?_, hK _ ?_⟩
            · have hq' := hw'
              go_simp
            clear hK K
            (try simp only [Act.put, List.setIfInBounds_toArray, List.set_cons_zero, List.set_cons_succ])
            refine WQ.want (by rfl) (fun K hK => ?_)
            refine ⟨.bool true, fun w' hw' => ?_, hK _ ?_⟩
            · have hq' := hw'
              go_simp
            clear hK K
            (try simp only [Act.put, List.setIfInBounds_toArray, List.set_cons_zero, List.set_cons_succ])
            refine WQ.done ?_
            rintro w9 hX9
            go_wp2_with fail
            go_ret
            exact ⟨rfl, hB8.trans (hX9.mono hB8.size)⟩

end Go.Proofs.Ytlmlmkeomlehmaa
