/-
  The walk of FlushSteps.
-/
import Derived.Test.YtlmlmkeomlehmaaWkf
import Derived.Test.YtlmlmkeomlehmaaRst
import Derived.Test.YtlmlmkeomlehmaaSam
import Derived.Test.YtlmlmkeomlehmaaRhv
namespace Go.Proofs.Ytlmlmkeomlehmaa
open Go.RowKit
attribute [local go_sem ↓] Go.wp_at_zero Go.wp_at_succ

set_option maxRecDepth 100000 in
set_option maxHeartbeats 16000000 in
theorem flushSteps_walk (ao : Option Addr) (c : Nat) (lows : List (List UInt8)) (bo : Option Addr) (d : Nat) (keys : List (List UInt8)) (co : Option Addr) (cc : Nat) (l : List Int) (w : World) (hs : StrAt w ao lows) (hc : lows.length ≤ c) (hsl : ∀ s ∈ lows, s.length ≤ 140737488355328)
    (hk : StrAt w bo keys) (hd : keys.length ≤ d) (hkl : ∀ s ∈ keys, s.length ≤ 140737488355328) (hb : SlAt (fun x : Int => [Value.int .u8 x]) 1 w co l) (hcc : l.length ≤ cc) (hx : ∀ x ∈ l, 0 ≤ x ∧ x < 256) :
    Calls Try.prog 7 #[.slice ao lows.length c, .slice bo keys.length d, .slice co l.length cc] w fun e w' => e = .returned (.bool true) ∧ Below w.heap.size w w' := by
  have hmin := fun ts t a b w => run_tmin (P := Try.prog) ts t a b w
  have hm : tmin (l.length : Int) 40 = ((min l.length 40 : Nat) : Int) := tmin_nat _ 40
  generalize hM : min l.length 40 = m at *
  have hmx : m ≤ l.length := by omega
  have hm60 : m ≤ 40 := by omega
  have hcut := fun W => cut_bytesD co l.length cc m hmx hcc W
  have hlt : (l.take m).length = m := by rw [List.length_take]; omega
  have hxx : ∀ x ∈ l.take m, 0 ≤ x ∧ x < 256 := fun x hx' => hx x (List.mem_of_mem_take hx')
  have hbc := hb.cut m
  clear hb hx hM
  generalize l.take m = L at *
  subst hlt
  have HSP := Lib.hid (fun W h => spread_any co cc L W h (by omega) hxx)
  have HS := Lib.hid hs
  have HB := Lib.hid hbc
  clear hs hbc hxx
  have HK := Lib.hid hk
  have HKL := Lib.hid hkl
  have HSL := Lib.hid hsl
  clear hk hkl hsl
  go_enter Try.func7, Try.ntmps7
  go_wp2_with fail
  refine (thread (HSP.out _ (HB.out.kept (by go_grown) (Nat.le_refl _))) w.heap.size w (by go_grown) (by go_grown)).mono ?_
  rintro e w1 ⟨⟨v1, rfl, ho1⟩, hB1, -, -, hs1, hz1⟩
  obtain ⟨a1, d1, rfl, hst, hle, -⟩ := strAt_row ho1
  replace HS := Lib.hid (HS.out.kept hB1 (Nat.le_refl _))
  replace HK := Lib.hid (HK.out.kept hB1 (Nat.le_refl _))
  have HST := Lib.hid hst
  have HSTL := Lib.hid (show ∀ s ∈ sprTo L L.length, s.length ≤ 140737488355328 from fun s hs => by
    obtain ⟨i, hi, rfl⟩ := List.getElem_of_mem hs
    simp [sprTo, sprd])
  generalize sprTo L L.length = K1 at *
  clear HSP HB hcut hm hmin ho1 hst
  go_wp2_with fail
  obtain ⟨W1, hW_W1⟩ : ∃ W1, W1 = (w1.alloc (.cells #[.slice bo keys.length d, .slice a1 K1.length d1] 55)) := ⟨_, rfl⟩
  rw [← hW_W1]
  have hX_W1 : Below w1.heap.size w1 W1 := by rw [hW_W1]; go_grown
  have g0 : W1.cell? ⟨w1.heap.size, 0, none⟩ = some (.slice bo keys.length d) := by rw [hW_W1, World.cell?_alloc_at _ _ _ _ (by simp)]; rfl
  have g1 : W1.cell? ⟨w1.heap.size, 1, none⟩ = some (.slice a1 K1.length d1) := by rw [hW_W1, World.cell?_alloc_at _ _ _ _ (by simp)]; rfl
  clear hW_W1
  have hz_W1 := hX_W1.size
  replace HS := Lib.hid (HS.out.kept hX_W1 (Nat.le_refl _))
  replace HK := Lib.hid (HK.out.kept hX_W1 (Nat.le_refl _))
  replace HST := Lib.hid (HST.out.kept hX_W1 (Nat.le_refl _))
  replace hB1 := hB1.trans (hX_W1.mono hB1.size)
  clear hX_W1
  go_loopw [39] (fun i wr => ∃ (j : Nat), i = .int .i64 j ∧ j ≤ 2 ∧ Below W1.heap.size W1 wr) (fun i _ => 2 - (intOf i).toNat)
  case atStart => exact ⟨0, rfl, by omega, Below.refl _ _⟩
  case round =>
    obtain ⟨j, rfl, hj, hX⟩ := hrel
    obtain ⟨wo, hwo⟩ : ∃ wo, wo = wr := ⟨_, rfl⟩
    subst hwo
    have hj0 : (0 : Int) ≤ (j : Int) := Int.natCast_nonneg _
    have hzo := hX.size
    replace g0 := kept_cell hX g0
    replace g1 := kept_cell hX g1
    replace HS := Lib.hid (HS.out.kept hX (Nat.le_refl _))
    replace HK := Lib.hid (HK.out.kept hX (Nat.le_refl _))
    replace HST := Lib.hid (HST.out.kept hX (Nat.le_refl _))
    replace hB1 := hB1.trans (hX.mono hB1.size)
    by_cases hj2 : j < 2
    · have hj1 : (j : Int) < 2 := by omega
      obtain ⟨ko, K, kc, hcell, HKK, hKc, HKKL⟩ : ∃ (ko : Option Addr) (K : List (List UInt8)) (kc : Nat), wo.cell? ⟨w1.heap.size, j, none⟩ = some (.slice ko K.length kc) ∧ Hid (StrAt wo ko K) ∧ K.length ≤ kc ∧ Hid (∀ s ∈ K, s.length ≤ 140737488355328) := by
        rcases (by omega : j = 0 ∨ j = 1) with rfl | rfl
        · exact ⟨bo, keys, d, g0, HK, hd, HKL⟩
        · exact ⟨a1, K1, d1, g1, HST, hle, HSTL⟩
      have HOF := Lib.hid (of_any ao c lows ko kc K wo HS.out hc HKK.out hKc HSL.out HKKL.out)
      clear HKK HKKL HK HST g0 g1
      go_wp2_with fail
      refine (thread HOF.out wo.heap.size wo (Below.refl _ _) (Nat.le_refl _)).mono ?_
      rintro e w2 ⟨⟨va, vb, rfl, hva, hvb⟩, hX2, -, -, -, hz2⟩
      obtain ⟨a2, b2, y2, z2, rfl, hc2, hu2⟩ := hva
      obtain ⟨a3, b3, y3, z3, rfl, hc3, hu3⟩ := hvb
      have HN := Lib.hid (NodeAt.mk' hc2 hu2)
      have HX := Lib.hid (NodeAt.mk' hc3 hu3)
      replace hB1 := hB1.trans (hX2.mono hB1.size)
      replace hX := hX.trans (hX2.mono hX.size)
      clear hX2
      clear hc2 hu2 hc3 hu3 HOF HS
      have hCl : 0 < (kids lows).length ∧ (kids lows).length ≤ 21 := by rw [kids_len]; omega
      have hKO := Lib.hid (kids_ok lows)
      have hUl := all_len K
      have hUr := Lib.hid (all_rise K)
      generalize kids lows = C at *
      generalize withAll (upds K) = U at *
      go_upto_region 5 with (fail)
      obtain ⟨W2, hW_W2⟩ : ∃ W2, W2 = ((w2.alloc (.cells #[.slice a2 C.length y2, .slice b2 U.length z2] 31)).alloc (.cells #[.slice a3 C.length y3, .slice b3 U.length z3] 35)) := ⟨_, rfl⟩
      rw [← hW_W2]
      have hX_W2 : Below w2.heap.size w2 W2 := by rw [hW_W2]; go_grown
      have n0 : W2.cell? ⟨w2.heap.size, 0, none⟩ = some (.slice a2 C.length y2) := by rw [hW_W2, World.cell?_alloc_past _ _ _ (by simp <;> omega), World.cell?_alloc_at _ _ _ _ (by simp)]; rfl
      have n1 : W2.cell? ⟨w2.heap.size, 1, none⟩ = some (.slice b2 U.length z2) := by rw [hW_W2, World.cell?_alloc_past _ _ _ (by simp <;> omega), World.cell?_alloc_at _ _ _ _ (by simp)]; rfl
      have r0 : W2.cell? ⟨w2.heap.size + 1, 0, none⟩ = some (.slice a3 C.length y3) := by rw [hW_W2, World.cell?_alloc_at _ _ _ _ (by simp)]; rfl
      have r1 : W2.cell? ⟨w2.heap.size + 1, 1, none⟩ = some (.slice b3 U.length z3) := by rw [hW_W2, World.cell?_alloc_at _ _ _ _ (by simp)]; rfl
      clear hW_W2
      have hz_W2 := hX_W2.size
      replace HN := Lib.hid (HN.out.kept hX_W2 (Nat.le_refl _))
      replace HX := Lib.hid (HX.out.kept hX_W2 (Nat.le_refl _))
      replace hB1 := hB1.trans (hX_W2.mono hB1.size)
      replace hX := hX.trans (hX_W2.mono hX.size)
      clear hX_W2
      go_wp2_with fail
      refine (thread (refCounts_any _ C U W2 HX.out (by omega) (by omega)) W2.heap.size W2 (Below.refl _ _) (Nat.le_refl _)).mono ?_
      rintro e w3 ⟨⟨v3, rfl, hO3⟩, hX_w3, -, -, -, hz_w3⟩
      replace n0 := kept_cell hX_w3 n0
      replace n1 := kept_cell hX_w3 n1
      replace r0 := kept_cell hX_w3 r0
      replace r1 := kept_cell hX_w3 r1
      replace HN := Lib.hid (HN.out.kept hX_w3 (Nat.le_refl _))
      replace HX := Lib.hid (HX.out.kept hX_w3 (Nat.le_refl _))
      replace hB1 := hB1.trans (hX_w3.mono hB1.size)
      replace hX := hX.trans (hX_w3.mono hX.size)
      clear hX_w3
      obtain ⟨ao3, c3, rfl, hI3, -, -⟩ := hO3.form
      have HI3 := Lib.hid hI3
      clear hO3 hI3
      go_wp2_with fail
      refine (thread (counts_any _ C U w3 HN.out (by omega) (by omega)) w3.heap.size w3 (Below.refl _ _) (Nat.le_refl _)).mono ?_
      rintro e w4 ⟨⟨v4, rfl, hO4⟩, hX_w4, -, -, -, hz_w4⟩
      replace n0 := kept_cell hX_w4 n0
      replace n1 := kept_cell hX_w4 n1
      replace r0 := kept_cell hX_w4 r0
      replace r1 := kept_cell hX_w4 r1
      replace HN := Lib.hid (HN.out.kept hX_w4 (Nat.le_refl _))
      replace HX := Lib.hid (HX.out.kept hX_w4 (Nat.le_refl _))
      replace HI3 := Lib.hid (HI3.out.kept hX_w4 (Nat.le_refl _))
      replace hB1 := hB1.trans (hX_w4.mono hB1.size)
      replace hX := hX.trans (hX_w4.mono hX.size)
      clear hX_w4
      obtain ⟨ao4, c4, rfl, hI4, -, -⟩ := hO4.form
      have HI4 := Lib.hid hI4
      clear hO4 hI4
      go_wp2_with fail
      have hcl : (cntAt C U).length ≤ 21 := by rw [cntAt_len]; omega
      go_loopw [60] (fun i wr => ∃ (j : Nat), i = .int .i64 j ∧ j ≤ (cntAt C U).length ∧ Below w4.heap.size w4 wr) (fun i _ => (cntAt C U).length - (intOf i).toNat)
      case atStart => exact ⟨0, rfl, by omega, Below.refl _ _⟩
      case round =>
        obtain ⟨i, rfl, hi, hXi⟩ := hrel
        have hi0 : (0 : Int) ≤ (i : Int) := Int.natCast_nonneg _
        have hzx := hXi.size
        replace n0 := kept_cell hXi n0
        replace n1 := kept_cell hXi n1
        replace r0 := kept_cell hXi r0
        replace r1 := kept_cell hXi r1
        replace HN := Lib.hid (HN.out.kept hXi (Nat.le_refl _))
        replace HX := Lib.hid (HX.out.kept hXi (Nat.le_refl _))
        replace HI3 := Lib.hid (HI3.out.kept hXi (Nat.le_refl _))
        replace HI4 := Lib.hid (HI4.out.kept hXi (Nat.le_refl _))
        replace hB1 := hB1.trans (hXi.mono hB1.size)
        replace hX := hX.trans (hXi.mono hX.size)
        by_cases hil : i < (cntAt C U).length
        · as_aux_lemma =>
            have hi1 : (i : Int) < ((cntAt C U).length : Int) := by omega
            obtain ⟨b5, o5, rfl, hb5, hc5⟩ := HI3.out.at (by omega)
            obtain ⟨b6, o6, rfl, hb6, hc6⟩ := HI4.out.at (by omega)
            have q5 := hc5 i hil 0 _ rfl
            have q6 := hc6 i hil 0 _ rfl
            simp only [Nat.add_zero, Nat.mul_one] at q5 q6
            clear hc5 hc6
            generalize (cntAt C U)[i] = z at *
            go_upto_region 12 with (fail)
            refine WQ.region (C := fun w' => Below wr.heap.size wr w') (by kernel_rfl) (by kernel_rfl) (below_drew' (Below.refl _ _)) ?_
            refine WQ.want (by rfl) (fun K hK => ?_)
            refine ⟨.slice (some ⟨b6, o6, none⟩) (cntAt C U).length c4, fun w' hw' => ?_, hK _ ?_⟩
            · have hq' := hw'
              go_simp
            clear hK K
            (try simp only [Act.put, List.setIfInBounds_toArray, List.set_cons_zero, List.set_cons_succ])
            refine WQ.want (by rfl) (fun K hK => ?_)
            refine ⟨.int .i64 i, fun w' hw' => ?_, hK _ ?_⟩
            · have hq' := hw'
              go_simp
            clear hK K
            (try simp only [Act.put, List.setIfInBounds_toArray, List.set_cons_zero, List.set_cons_succ])
            refine WQ.want (by rfl) (fun K hK => ?_)
            refine ⟨.pointer (some ⟨b6, o6 + i, none⟩), fun w' hw' => ?_, hK _ ?_⟩
            · have hq' := hw'
              go_simp
            clear hK K
            (try simp only [Act.put, List.setIfInBounds_toArray, List.set_cons_zero, List.set_cons_succ])
            refine WQ.want (by rfl) (fun K hK => ?_)
            refine ⟨.int .i64 z, fun w' hw' => ?_, hK _ ?_⟩
            · have hq' := hw'
              have z0 := kept_cell hw' q5; have z1 := kept_cell hw' q6; go_simp
            clear hK K
            (try simp only [Act.put, List.setIfInBounds_toArray, List.set_cons_zero, List.set_cons_succ])
            refine WQ.want (by rfl) (fun K hK => ?_)
            refine ⟨.slice (some ⟨b5, o5, none⟩) (cntAt C U).length c3, fun w' hw' => ?_, hK _ ?_⟩
            · have hq' := hw'
              go_simp
            clear hK K
            (try simp only [Act.put, List.setIfInBounds_toArray, List.set_cons_zero, List.set_cons_succ])
            refine WQ.want (by rfl) (fun K hK => ?_)
            refine ⟨.int .i64 i, fun w' hw' => ?_, hK _ ?_⟩
            · have hq' := hw'
              go_simp
            clear hK K
            (try simp only [Act.put, List.setIfInBounds_toArray, List.set_cons_zero, List.set_cons_succ])
            refine WQ.want (by rfl) (fun K hK => ?_)
            refine ⟨.pointer (some ⟨b5, o5 + i, none⟩), fun w' hw' => ?_, hK _ ?_⟩
            · have hq' := hw'
              go_simp
            clear hK K
            (try simp only [Act.put, List.setIfInBounds_toArray, List.set_cons_zero, List.set_cons_succ])
            refine WQ.want (by rfl) (fun K hK => ?_)
            refine ⟨.int .i64 z, fun w' hw' => ?_, hK _ ?_⟩
            · have hq' := hw'
              have z0 := kept_cell hw' q5; have z1 := kept_cell hw' q6; go_simp
            clear hK K
            (try simp only [Act.put, List.setIfInBounds_toArray, List.set_cons_zero, List.set_cons_succ])
            refine WQ.want (by rfl) (fun K hK => ?_)
            refine ⟨.bool false, fun w' hw' => ?_, hK _ ?_⟩
            · have hq' := hw'
              go_simp
            clear hK K
            (try simp only [Act.put, List.setIfInBounds_toArray, List.set_cons_zero, List.set_cons_succ])
            refine WQ.done ?_
            rintro w5 hX5
            replace hXi := hXi.trans (hX5.mono hXi.size)
            clear hX5
            go_wp2_with fail
            exact ⟨⟨i + 1, by go_num, by omega, hXi⟩, by simp [intOf]; omega⟩
        · obtain rfl : i = (cntAt C U).length := by omega
          clear hXi HI3 HI4
          obtain ⟨k, hkl, hk, hmx⟩ := top_one (cntAt C U) (by rw [cntAt_len]; omega)
          have hkC : k < C.length := by rw [← cntAt_len C U]; exact hkl
          have HKT := Lib.hid hk
          clear hmx hk
          by_cases hc1 : (cntAt C U)[k] < 1
          · as_aux_lemma =>
              go_wp2_with fail
              refine (thread (step_none (.agg #[.slice a2 C.length y2, .slice b2 U.length z2]) C U wr HN.out (by omega) (by omega) k HKT.out hkl hc1) wr.heap.size wr (Below.refl _ _) (Nat.le_refl _)).mono ?_
              rintro e w6 ⟨rfl, hX_w6, -, -, -, hz_w6⟩
              replace n0 := kept_cell hX_w6 n0
              replace n1 := kept_cell hX_w6 n1
              replace r0 := kept_cell hX_w6 r0
              replace r1 := kept_cell hX_w6 r1
              replace HN := Lib.hid (HN.out.kept hX_w6 (Nat.le_refl _))
              replace HX := Lib.hid (HX.out.kept hX_w6 (Nat.le_refl _))
              replace hB1 := hB1.trans (hX_w6.mono hB1.size)
              replace hX := hX.trans (hX_w6.mono hX.size)
              clear hX_w6
              go_upto_region 16 with (fail)
              obtain ⟨W6, hW_W6⟩ : ∃ W6, W6 = ((w6.alloc (.cells #[.slice none 0 0] 29)).alloc (.cells #[.slice none 0 0, .slice none 0 0] 31)) := ⟨_, rfl⟩
              rw [← hW_W6]
              have hX_W6 : Below w6.heap.size w6 W6 := by rw [hW_W6]; go_grown
              have q0 : W6.cell? ⟨w6.heap.size, 0, none⟩ = some (.slice none 0 0) := by rw [hW_W6, World.cell?_alloc_past _ _ _ (by simp <;> omega), World.cell?_alloc_at _ _ _ _ (by simp)]; rfl
              have s0 : W6.cell? ⟨w6.heap.size + 1, 0, none⟩ = some (.slice none 0 0) := by rw [hW_W6, World.cell?_alloc_at _ _ _ _ (by simp)]; rfl
              have s1 : W6.cell? ⟨w6.heap.size + 1, 1, none⟩ = some (.slice none 0 0) := by rw [hW_W6, World.cell?_alloc_at _ _ _ _ (by simp)]; rfl
              clear hW_W6
              have hz_W6 := hX_W6.size
              replace n0 := kept_cell hX_W6 n0
              replace n1 := kept_cell hX_W6 n1
              replace r0 := kept_cell hX_W6 r0
              replace r1 := kept_cell hX_W6 r1
              replace HN := Lib.hid (HN.out.kept hX_W6 (Nat.le_refl _))
              replace HX := Lib.hid (HX.out.kept hX_W6 (Nat.le_refl _))
              replace hB1 := hB1.trans (hX_W6.mono hB1.size)
              replace hX := hX.trans (hX_W6.mono hX.size)
              clear hX_W6
              go_wp2_with fail
              refine (thread (refStep_none (.agg #[.slice a3 C.length y3, .slice b3 U.length z3]) C U W6 HX.out (by omega) (by omega) k HKT.out hkl hc1) W6.heap.size W6 (Below.refl _ _) (Nat.le_refl _)).mono ?_
              rintro e w7 ⟨rfl, hX_w7, -, -, -, hz_w7⟩
              replace n0 := kept_cell hX_w7 n0
              replace n1 := kept_cell hX_w7 n1
              replace r0 := kept_cell hX_w7 r0
              replace r1 := kept_cell hX_w7 r1
              replace q0 := kept_cell hX_w7 q0
              replace s0 := kept_cell hX_w7 s0
              replace s1 := kept_cell hX_w7 s1
              replace HN := Lib.hid (HN.out.kept hX_w7 (Nat.le_refl _))
              replace HX := Lib.hid (HX.out.kept hX_w7 (Nat.le_refl _))
              replace hB1 := hB1.trans (hX_w7.mono hB1.size)
              replace hX := hX.trans (hX_w7.mono hX.size)
              clear hX_w7
              go_wp2_with fail
              refine (thread (list_next none 0 0 [] _ rfl (BoxU.mk ⟨_, rfl, SlU.nil _⟩) (by simp)) w7.heap.size w7 (Below.refl _ _) (Nat.le_refl _)).mono ?_
              rintro e w8 ⟨⟨a8, c8, rfl, hown⟩, hX_w8, -, -, -, hz_w8⟩
              replace n0 := kept_cell hX_w8 n0
              replace n1 := kept_cell hX_w8 n1
              replace r0 := kept_cell hX_w8 r0
              replace r1 := kept_cell hX_w8 r1
              replace q0 := kept_cell hX_w8 q0
              replace s0 := kept_cell hX_w8 s0
              replace s1 := kept_cell hX_w8 s1
              replace HN := Lib.hid (HN.out.kept hX_w8 (Nat.le_refl _))
              replace HX := Lib.hid (HX.out.kept hX_w8 (Nat.le_refl _))
              replace hB1 := hB1.trans (hX_w8.mono hB1.size)
              replace hX := hX.trans (hX_w8.mono hX.size)
              clear hX_w8
              have HRW := Lib.hid (SlU.of_own hown).2
              clear hown
              go_wp2_with fail
              refine (thread (same20_any a8 0 c8 none 0 [] _ rfl HRW.out (SlU.nil _) (by simp)) w8.heap.size w8 (Below.refl _ _) (Nat.le_refl _)).mono ?_
              rintro e wt ⟨rfl, hX_wt, -, -, -, hz_wt⟩
              replace n0 := kept_cell hX_wt n0
              replace n1 := kept_cell hX_wt n1
              replace r0 := kept_cell hX_wt r0
              replace r1 := kept_cell hX_wt r1
              replace q0 := kept_cell hX_wt q0
              replace s0 := kept_cell hX_wt s0
              replace s1 := kept_cell hX_wt s1
              replace HN := Lib.hid (HN.out.kept hX_wt (Nat.le_refl _))
              replace HX := Lib.hid (HX.out.kept hX_wt (Nat.le_refl _))
              replace hB1 := hB1.trans (hX_wt.mono hB1.size)
              replace hX := hX.trans (hX_wt.mono hX.size)
              clear hX_wt
              go_wp2_with fail
              clear q0 s0 s1
              clear HRW hc1
              by_cases h2 : 2 ≤ C.length
              · as_aux_lemma =>
                  obtain ⟨hb1, hb2⟩ := halves_bel hKO.out hUr.out (m := (C.length + 1) / 2) (by omega) (by omega)
                  have HHV := Lib.hid (fun W h => halves_some (.agg #[.slice a2 C.length y2, .slice b2 U.length z2]) C U W h h2 (by omega) (by omega) hUr.out ((C.length + 1) / 2) rfl)
                  have HRV := Lib.hid (fun W h => refHalves_some (.agg #[.slice a3 C.length y3, .slice b3 U.length z3]) C U W h h2 (by omega) (by omega) ((C.length + 1) / 2) rfl (fun u => bl u.key (lowAt C ((C.length + 1) / 2))) (fun u => !bl u.key (lowAt C ((C.length + 1) / 2))) (fun u => rfl) (fun u => rfl))
                  have hq1 := List.length_filter_le (fun u : Upd => bl u.key (lowAt C ((C.length + 1) / 2))) U
                  have hq2 := List.length_filter_le (fun u : Upd => !bl u.key (lowAt C ((C.length + 1) / 2))) U
                  have hq3 := List.length_take_le ((C.length + 1) / 2) C
                  have hq4 : (C.take ((C.length + 1) / 2)).length ≤ 1000 := by rw [List.length_take]; omega
                  have hq5 : (headless (C.drop ((C.length + 1) / 2))).length ≤ 1000 := by rw [headless_len, List.length_drop]; omega
                  rw [hb1, hb2] at HHV
                  clear hb1 hb2 hq3
                  generalize (C.length + 1) / 2 = M at *
                  generalize lowAt C M = low at *
                  generalize U.filter (fun u => bl u.key low) = I1 at *
                  generalize U.filter (fun u => !bl u.key low) = I2 at *
                  generalize C.take M = C1 at *
                  generalize headless (C.drop M) = C2 at *
                  refine (thread (HHV.out _ HN.out) wt.heap.size wt (Below.refl _ _) (Nat.le_refl _)).mono ?_
                  rintro e w10 ⟨⟨va, vb, rfl, hva, hvb⟩, hX10, -, -, -, hz10⟩
                  obtain ⟨a10, b10, x10, y10, rfl, hc10, hu10⟩ := hva
                  obtain ⟨a11, b11, x11, y11, rfl, hc11, hu11⟩ := hvb
                  have HA := Lib.hid (NodeAt.mk' hc10 hu10)
                  have HB := Lib.hid (NodeAt.mk' hc11 hu11)
                  clear hc10 hu10 hc11 hu11 HHV
                  replace n0 := kept_cell hX10 n0
                  replace n1 := kept_cell hX10 n1
                  replace r0 := kept_cell hX10 r0
                  replace r1 := kept_cell hX10 r1
                  replace HN := Lib.hid (HN.out.kept hX10 (Nat.le_refl _))
                  replace HX := Lib.hid (HX.out.kept hX10 (Nat.le_refl _))
                  replace hB1 := hB1.trans (hX10.mono hB1.size)
                  replace hX := hX.trans (hX10.mono hX.size)
                  clear hX10
                  go_upto_region 20 with (fail)
                  obtain ⟨W10, hW_W10⟩ : ∃ W10, W10 = ((w10.alloc (.cells #[.slice a10 C1.length x10, .slice b10 I1.length y10] 31)).alloc (.cells #[.slice a11 C2.length x11, .slice b11 I2.length y11] 31)) := ⟨_, rfl⟩
                  rw [← hW_W10]
                  have hX_W10 : Below w10.heap.size w10 W10 := by rw [hW_W10]; go_grown
                  have p0 : W10.cell? ⟨w10.heap.size, 0, none⟩ = some (.slice a10 C1.length x10) := by rw [hW_W10, World.cell?_alloc_past _ _ _ (by simp <;> omega), World.cell?_alloc_at _ _ _ _ (by simp)]; rfl
                  have p1 : W10.cell? ⟨w10.heap.size, 1, none⟩ = some (.slice b10 I1.length y10) := by rw [hW_W10, World.cell?_alloc_past _ _ _ (by simp <;> omega), World.cell?_alloc_at _ _ _ _ (by simp)]; rfl
                  have q0 : W10.cell? ⟨w10.heap.size + 1, 0, none⟩ = some (.slice a11 C2.length x11) := by rw [hW_W10, World.cell?_alloc_at _ _ _ _ (by simp)]; rfl
                  have q1 : W10.cell? ⟨w10.heap.size + 1, 1, none⟩ = some (.slice b11 I2.length y11) := by rw [hW_W10, World.cell?_alloc_at _ _ _ _ (by simp)]; rfl
                  clear hW_W10
                  have hz_W10 := hX_W10.size
                  replace n0 := kept_cell hX_W10 n0
                  replace n1 := kept_cell hX_W10 n1
                  replace r0 := kept_cell hX_W10 r0
                  replace r1 := kept_cell hX_W10 r1
                  replace HN := Lib.hid (HN.out.kept hX_W10 (Nat.le_refl _))
                  replace HX := Lib.hid (HX.out.kept hX_W10 (Nat.le_refl _))
                  replace HA := Lib.hid (HA.out.kept hX_W10 (Nat.le_refl _))
                  replace HB := Lib.hid (HB.out.kept hX_W10 (Nat.le_refl _))
                  replace hB1 := hB1.trans (hX_W10.mono hB1.size)
                  replace hX := hX.trans (hX_W10.mono hX.size)
                  clear hX_W10
                  go_wp2_with fail
                  refine (thread (HRV.out _ HX.out) W10.heap.size W10 (Below.refl _ _) (Nat.le_refl _)).mono ?_
                  rintro e w12 ⟨⟨va, vb, rfl, hva, hvb⟩, hX12, -, -, -, hz12⟩
                  obtain ⟨a12, b12, x12, y12, rfl, hc12, hu12⟩ := hva
                  obtain ⟨a13, b13, x13, y13, rfl, hc13, hu13⟩ := hvb
                  have HA2 := Lib.hid (NodeAt.mk' hc12 hu12)
                  have HB2 := Lib.hid (NodeAt.mk' hc13 hu13)
                  clear hc12 hu12 hc13 hu13 HRV
                  replace n0 := kept_cell hX12 n0
                  replace n1 := kept_cell hX12 n1
                  replace r0 := kept_cell hX12 r0
                  replace r1 := kept_cell hX12 r1
                  replace p0 := kept_cell hX12 p0
                  replace p1 := kept_cell hX12 p1
                  replace q0 := kept_cell hX12 q0
                  replace q1 := kept_cell hX12 q1
                  replace HN := Lib.hid (HN.out.kept hX12 (Nat.le_refl _))
                  replace HX := Lib.hid (HX.out.kept hX12 (Nat.le_refl _))
                  replace HA := Lib.hid (HA.out.kept hX12 (Nat.le_refl _))
                  replace HB := Lib.hid (HB.out.kept hX12 (Nat.le_refl _))
                  replace hB1 := hB1.trans (hX12.mono hB1.size)
                  replace hX := hX.trans (hX12.mono hX.size)
                  clear hX12
                  go_upto_region 21 with (fail)
                  obtain ⟨W12, hW_W12⟩ : ∃ W12, W12 = ((w12.alloc (.cells #[.slice a12 C1.length x12, .slice b12 I1.length y12] 35)).alloc (.cells #[.slice a13 C2.length x13, .slice b13 I2.length y13] 35)) := ⟨_, rfl⟩
                  rw [← hW_W12]
                  have hX_W12 : Below w12.heap.size w12 W12 := by rw [hW_W12]; go_grown
                  have s0 : W12.cell? ⟨w12.heap.size, 0, none⟩ = some (.slice a12 C1.length x12) := by rw [hW_W12, World.cell?_alloc_past _ _ _ (by simp <;> omega), World.cell?_alloc_at _ _ _ _ (by simp)]; rfl
                  have s1 : W12.cell? ⟨w12.heap.size, 1, none⟩ = some (.slice b12 I1.length y12) := by rw [hW_W12, World.cell?_alloc_past _ _ _ (by simp <;> omega), World.cell?_alloc_at _ _ _ _ (by simp)]; rfl
                  have t0 : W12.cell? ⟨w12.heap.size + 1, 0, none⟩ = some (.slice a13 C2.length x13) := by rw [hW_W12, World.cell?_alloc_at _ _ _ _ (by simp)]; rfl
                  have t1 : W12.cell? ⟨w12.heap.size + 1, 1, none⟩ = some (.slice b13 I2.length y13) := by rw [hW_W12, World.cell?_alloc_at _ _ _ _ (by simp)]; rfl
                  clear hW_W12
                  have hz_W12 := hX_W12.size
                  replace n0 := kept_cell hX_W12 n0
                  replace n1 := kept_cell hX_W12 n1
                  replace r0 := kept_cell hX_W12 r0
                  replace r1 := kept_cell hX_W12 r1
                  replace p0 := kept_cell hX_W12 p0
                  replace p1 := kept_cell hX_W12 p1
                  replace q0 := kept_cell hX_W12 q0
                  replace q1 := kept_cell hX_W12 q1
                  replace HN := Lib.hid (HN.out.kept hX_W12 (Nat.le_refl _))
                  replace HX := Lib.hid (HX.out.kept hX_W12 (Nat.le_refl _))
                  replace HA := Lib.hid (HA.out.kept hX_W12 (Nat.le_refl _))
                  replace HB := Lib.hid (HB.out.kept hX_W12 (Nat.le_refl _))
                  replace HA2 := Lib.hid (HA2.out.kept hX_W12 (Nat.le_refl _))
                  replace HB2 := Lib.hid (HB2.out.kept hX_W12 (Nat.le_refl _))
                  replace hB1 := hB1.trans (hX_W12.mono hB1.size)
                  replace hX := hX.trans (hX_W12.mono hX.size)
                  clear hX_W12
                  go_wp2_with fail
                  refine (thread (equal20_any _ _ C1 I1 W12 HA.out HA2.out (by omega) (by omega)) W12.heap.size W12 (Below.refl _ _) (Nat.le_refl _)).mono ?_
                  rintro e w14 ⟨rfl, hX_w14, -, -, -, hz_w14⟩
                  replace n0 := kept_cell hX_w14 n0
                  replace n1 := kept_cell hX_w14 n1
                  replace r0 := kept_cell hX_w14 r0
                  replace r1 := kept_cell hX_w14 r1
                  replace p0 := kept_cell hX_w14 p0
                  replace p1 := kept_cell hX_w14 p1
                  replace q0 := kept_cell hX_w14 q0
                  replace q1 := kept_cell hX_w14 q1
                  replace s0 := kept_cell hX_w14 s0
                  replace s1 := kept_cell hX_w14 s1
                  replace t0 := kept_cell hX_w14 t0
                  replace t1 := kept_cell hX_w14 t1
                  replace HN := Lib.hid (HN.out.kept hX_w14 (Nat.le_refl _))
                  replace HX := Lib.hid (HX.out.kept hX_w14 (Nat.le_refl _))
                  replace HA := Lib.hid (HA.out.kept hX_w14 (Nat.le_refl _))
                  replace HB := Lib.hid (HB.out.kept hX_w14 (Nat.le_refl _))
                  replace HA2 := Lib.hid (HA2.out.kept hX_w14 (Nat.le_refl _))
                  replace HB2 := Lib.hid (HB2.out.kept hX_w14 (Nat.le_refl _))
                  replace hB1 := hB1.trans (hX_w14.mono hB1.size)
                  replace hX := hX.trans (hX_w14.mono hX.size)
                  clear hX_w14
                  go_wp2_with fail
                  refine (thread (equal20_any _ _ C2 I2 w14 HB.out HB2.out (by omega) (by omega)) w14.heap.size w14 (Below.refl _ _) (Nat.le_refl _)).mono ?_
                  rintro e w15 ⟨rfl, hX_w15, -, -, -, hz_w15⟩
                  replace n0 := kept_cell hX_w15 n0
                  replace n1 := kept_cell hX_w15 n1
                  replace r0 := kept_cell hX_w15 r0
                  replace r1 := kept_cell hX_w15 r1
                  replace p0 := kept_cell hX_w15 p0
                  replace p1 := kept_cell hX_w15 p1
                  replace q0 := kept_cell hX_w15 q0
                  replace q1 := kept_cell hX_w15 q1
                  replace s0 := kept_cell hX_w15 s0
                  replace s1 := kept_cell hX_w15 s1
                  replace t0 := kept_cell hX_w15 t0
                  replace t1 := kept_cell hX_w15 t1
                  replace HN := Lib.hid (HN.out.kept hX_w15 (Nat.le_refl _))
                  replace HX := Lib.hid (HX.out.kept hX_w15 (Nat.le_refl _))
                  replace HA := Lib.hid (HA.out.kept hX_w15 (Nat.le_refl _))
                  replace HB := Lib.hid (HB.out.kept hX_w15 (Nat.le_refl _))
                  replace HA2 := Lib.hid (HA2.out.kept hX_w15 (Nat.le_refl _))
                  replace HB2 := Lib.hid (HB2.out.kept hX_w15 (Nat.le_refl _))
                  replace hB1 := hB1.trans (hX_w15.mono hB1.size)
                  replace hX := hX.trans (hX_w15.mono hX.size)
                  clear hX_w15
                  go_wp2_with fail
                  refine (thread (equal20_any _ _ C U w15 HN.out HX.out (by omega) (by omega)) w15.heap.size w15 (Below.refl _ _) (Nat.le_refl _)).mono ?_
                  rintro e w16 ⟨rfl, hX_w16, -, -, -, hz_w16⟩
                  replace n0 := kept_cell hX_w16 n0
                  replace n1 := kept_cell hX_w16 n1
                  replace r0 := kept_cell hX_w16 r0
                  replace r1 := kept_cell hX_w16 r1
                  replace p0 := kept_cell hX_w16 p0
                  replace p1 := kept_cell hX_w16 p1
                  replace q0 := kept_cell hX_w16 q0
                  replace q1 := kept_cell hX_w16 q1
                  replace s0 := kept_cell hX_w16 s0
                  replace s1 := kept_cell hX_w16 s1
                  replace t0 := kept_cell hX_w16 t0
                  replace t1 := kept_cell hX_w16 t1
                  replace HN := Lib.hid (HN.out.kept hX_w16 (Nat.le_refl _))
                  replace HX := Lib.hid (HX.out.kept hX_w16 (Nat.le_refl _))
                  replace HA := Lib.hid (HA.out.kept hX_w16 (Nat.le_refl _))
                  replace HB := Lib.hid (HB.out.kept hX_w16 (Nat.le_refl _))
                  replace HA2 := Lib.hid (HA2.out.kept hX_w16 (Nat.le_refl _))
                  replace HB2 := Lib.hid (HB2.out.kept hX_w16 (Nat.le_refl _))
                  replace hB1 := hB1.trans (hX_w16.mono hB1.size)
                  replace hX := hX.trans (hX_w16.mono hX.size)
                  clear hX_w16
                  go_wp2_with fail
                  exact ⟨⟨j + 1, by go_num, by omega, hX⟩, by simp [intOf]; omega⟩
              · as_aux_lemma =>
                  have HHV := Lib.hid (fun W h => halves_none (.agg #[.slice a2 C.length y2, .slice b2 U.length z2]) C U W h (by omega))
                  have HRV := Lib.hid (fun W h => refHalves_none (.agg #[.slice a3 C.length y3, .slice b3 U.length z3]) C U W h (by omega))
                  refine (thread (HHV.out _ HN.out) wt.heap.size wt (Below.refl _ _) (Nat.le_refl _)).mono ?_
                  rintro e w10 ⟨rfl, hX10, -, -, -, hz10⟩
                  replace n0 := kept_cell hX10 n0
                  replace n1 := kept_cell hX10 n1
                  replace r0 := kept_cell hX10 r0
                  replace r1 := kept_cell hX10 r1
                  replace HN := Lib.hid (HN.out.kept hX10 (Nat.le_refl _))
                  replace HX := Lib.hid (HX.out.kept hX10 (Nat.le_refl _))
                  replace hB1 := hB1.trans (hX10.mono hB1.size)
                  replace hX := hX.trans (hX10.mono hX.size)
                  clear hX10
                  go_upto_region 20 with (fail)
                  obtain ⟨W10, hW_W10⟩ : ∃ W10, W10 = ((w10.alloc (.cells #[.slice none 0 0, .slice none 0 0] 31)).alloc (.cells #[.slice none 0 0, .slice none 0 0] 31)) := ⟨_, rfl⟩
                  rw [← hW_W10]
                  have hX_W10 : Below w10.heap.size w10 W10 := by rw [hW_W10]; go_grown
                  have p0 : W10.cell? ⟨w10.heap.size, 0, none⟩ = some (.slice none 0 0) := by rw [hW_W10, World.cell?_alloc_past _ _ _ (by simp <;> omega), World.cell?_alloc_at _ _ _ _ (by simp)]; rfl
                  have p1 : W10.cell? ⟨w10.heap.size, 1, none⟩ = some (.slice none 0 0) := by rw [hW_W10, World.cell?_alloc_past _ _ _ (by simp <;> omega), World.cell?_alloc_at _ _ _ _ (by simp)]; rfl
                  have q0 : W10.cell? ⟨w10.heap.size + 1, 0, none⟩ = some (.slice none 0 0) := by rw [hW_W10, World.cell?_alloc_at _ _ _ _ (by simp)]; rfl
                  have q1 : W10.cell? ⟨w10.heap.size + 1, 1, none⟩ = some (.slice none 0 0) := by rw [hW_W10, World.cell?_alloc_at _ _ _ _ (by simp)]; rfl
                  clear hW_W10
                  have hz_W10 := hX_W10.size
                  replace n0 := kept_cell hX_W10 n0
                  replace n1 := kept_cell hX_W10 n1
                  replace r0 := kept_cell hX_W10 r0
                  replace r1 := kept_cell hX_W10 r1
                  replace HN := Lib.hid (HN.out.kept hX_W10 (Nat.le_refl _))
                  replace HX := Lib.hid (HX.out.kept hX_W10 (Nat.le_refl _))
                  replace hB1 := hB1.trans (hX_W10.mono hB1.size)
                  replace hX := hX.trans (hX_W10.mono hX.size)
                  clear hX_W10
                  go_wp2_with fail
                  refine (thread (HRV.out _ HX.out) W10.heap.size W10 (Below.refl _ _) (Nat.le_refl _)).mono ?_
                  rintro e w12 ⟨rfl, hX12, -, -, -, hz12⟩
                  replace n0 := kept_cell hX12 n0
                  replace n1 := kept_cell hX12 n1
                  replace r0 := kept_cell hX12 r0
                  replace r1 := kept_cell hX12 r1
                  replace p0 := kept_cell hX12 p0
                  replace p1 := kept_cell hX12 p1
                  replace q0 := kept_cell hX12 q0
                  replace q1 := kept_cell hX12 q1
                  replace HN := Lib.hid (HN.out.kept hX12 (Nat.le_refl _))
                  replace HX := Lib.hid (HX.out.kept hX12 (Nat.le_refl _))
                  replace hB1 := hB1.trans (hX12.mono hB1.size)
                  replace hX := hX.trans (hX12.mono hX.size)
                  clear hX12
                  go_upto_region 21 with (fail)
                  obtain ⟨W12, hW_W12⟩ : ∃ W12, W12 = ((w12.alloc (.cells #[.slice none 0 0, .slice none 0 0] 35)).alloc (.cells #[.slice none 0 0, .slice none 0 0] 35)) := ⟨_, rfl⟩
                  rw [← hW_W12]
                  have hX_W12 : Below w12.heap.size w12 W12 := by rw [hW_W12]; go_grown
                  have s0 : W12.cell? ⟨w12.heap.size, 0, none⟩ = some (.slice none 0 0) := by rw [hW_W12, World.cell?_alloc_past _ _ _ (by simp <;> omega), World.cell?_alloc_at _ _ _ _ (by simp)]; rfl
                  have s1 : W12.cell? ⟨w12.heap.size, 1, none⟩ = some (.slice none 0 0) := by rw [hW_W12, World.cell?_alloc_past _ _ _ (by simp <;> omega), World.cell?_alloc_at _ _ _ _ (by simp)]; rfl
                  have t0 : W12.cell? ⟨w12.heap.size + 1, 0, none⟩ = some (.slice none 0 0) := by rw [hW_W12, World.cell?_alloc_at _ _ _ _ (by simp)]; rfl
                  have t1 : W12.cell? ⟨w12.heap.size + 1, 1, none⟩ = some (.slice none 0 0) := by rw [hW_W12, World.cell?_alloc_at _ _ _ _ (by simp)]; rfl
                  clear hW_W12
                  have hz_W12 := hX_W12.size
                  replace n0 := kept_cell hX_W12 n0
                  replace n1 := kept_cell hX_W12 n1
                  replace r0 := kept_cell hX_W12 r0
                  replace r1 := kept_cell hX_W12 r1
                  replace p0 := kept_cell hX_W12 p0
                  replace p1 := kept_cell hX_W12 p1
                  replace q0 := kept_cell hX_W12 q0
                  replace q1 := kept_cell hX_W12 q1
                  replace HN := Lib.hid (HN.out.kept hX_W12 (Nat.le_refl _))
                  replace HX := Lib.hid (HX.out.kept hX_W12 (Nat.le_refl _))
                  replace hB1 := hB1.trans (hX_W12.mono hB1.size)
                  replace hX := hX.trans (hX_W12.mono hX.size)
                  clear hX_W12
                  go_wp2_with fail
                  refine (thread (equal20_any _ _ [] [] W12 (NodeAt.mk' (SlC.nil _) (SlU.nil _)) (NodeAt.mk' (SlC.nil _) (SlU.nil _)) (by simp) (by simp)) W12.heap.size W12 (Below.refl _ _) (Nat.le_refl _)).mono ?_
                  rintro e w14 ⟨rfl, hX_w14, -, -, -, hz_w14⟩
                  replace n0 := kept_cell hX_w14 n0
                  replace n1 := kept_cell hX_w14 n1
                  replace r0 := kept_cell hX_w14 r0
                  replace r1 := kept_cell hX_w14 r1
                  replace p0 := kept_cell hX_w14 p0
                  replace p1 := kept_cell hX_w14 p1
                  replace q0 := kept_cell hX_w14 q0
                  replace q1 := kept_cell hX_w14 q1
                  replace s0 := kept_cell hX_w14 s0
                  replace s1 := kept_cell hX_w14 s1
                  replace t0 := kept_cell hX_w14 t0
                  replace t1 := kept_cell hX_w14 t1
                  replace HN := Lib.hid (HN.out.kept hX_w14 (Nat.le_refl _))
                  replace HX := Lib.hid (HX.out.kept hX_w14 (Nat.le_refl _))
                  replace hB1 := hB1.trans (hX_w14.mono hB1.size)
                  replace hX := hX.trans (hX_w14.mono hX.size)
                  clear hX_w14
                  go_wp2_with fail
                  refine (thread (equal20_any _ _ [] [] w14 (NodeAt.mk' (SlC.nil _) (SlU.nil _)) (NodeAt.mk' (SlC.nil _) (SlU.nil _)) (by simp) (by simp)) w14.heap.size w14 (Below.refl _ _) (Nat.le_refl _)).mono ?_
                  rintro e w15 ⟨rfl, hX_w15, -, -, -, hz_w15⟩
                  replace n0 := kept_cell hX_w15 n0
                  replace n1 := kept_cell hX_w15 n1
                  replace r0 := kept_cell hX_w15 r0
                  replace r1 := kept_cell hX_w15 r1
                  replace p0 := kept_cell hX_w15 p0
                  replace p1 := kept_cell hX_w15 p1
                  replace q0 := kept_cell hX_w15 q0
                  replace q1 := kept_cell hX_w15 q1
                  replace s0 := kept_cell hX_w15 s0
                  replace s1 := kept_cell hX_w15 s1
                  replace t0 := kept_cell hX_w15 t0
                  replace t1 := kept_cell hX_w15 t1
                  replace HN := Lib.hid (HN.out.kept hX_w15 (Nat.le_refl _))
                  replace HX := Lib.hid (HX.out.kept hX_w15 (Nat.le_refl _))
                  replace hB1 := hB1.trans (hX_w15.mono hB1.size)
                  replace hX := hX.trans (hX_w15.mono hX.size)
                  clear hX_w15
                  go_wp2_with fail
                  refine (thread (equal20_any _ _ C U w15 HN.out HX.out (by omega) (by omega)) w15.heap.size w15 (Below.refl _ _) (Nat.le_refl _)).mono ?_
                  rintro e w16 ⟨rfl, hX_w16, -, -, -, hz_w16⟩
                  replace n0 := kept_cell hX_w16 n0
                  replace n1 := kept_cell hX_w16 n1
                  replace r0 := kept_cell hX_w16 r0
                  replace r1 := kept_cell hX_w16 r1
                  replace p0 := kept_cell hX_w16 p0
                  replace p1 := kept_cell hX_w16 p1
                  replace q0 := kept_cell hX_w16 q0
                  replace q1 := kept_cell hX_w16 q1
                  replace s0 := kept_cell hX_w16 s0
                  replace s1 := kept_cell hX_w16 s1
                  replace t0 := kept_cell hX_w16 t0
                  replace t1 := kept_cell hX_w16 t1
                  replace HN := Lib.hid (HN.out.kept hX_w16 (Nat.le_refl _))
                  replace HX := Lib.hid (HX.out.kept hX_w16 (Nat.le_refl _))
                  replace hB1 := hB1.trans (hX_w16.mono hB1.size)
                  replace hX := hX.trans (hX_w16.mono hX.size)
                  clear hX_w16
                  go_wp2_with fail
                  exact ⟨⟨j + 1, by go_num, by omega, hX⟩, by simp [intOf]; omega⟩
          · as_aux_lemma =>
              have HST := Lib.hid (fun W h => step_some (.agg #[.slice a2 C.length y2, .slice b2 U.length z2]) C U W h (by omega) (by omega) hUr.out k HKT.out hkl hc1)
              rw [cutIn_bel hKO.out hUr.out k hkC, cutOut_bel hKO.out hUr.out k hkC] at HST
              have HRT := Lib.hid (fun W h => refStep_some (.agg #[.slice a3 C.length y3, .slice b3 U.length z3]) C U W h (by omega) (by omega) k HKT.out hkl hc1 (fun u => decide (chOf C u.key = (k : Int))) (fun u => !decide (chOf C u.key = (k : Int))) (fun u => rfl) (fun u => rfl))
              have hq1 := List.length_filter_le (fun u : Upd => decide (chOf C u.key = (k : Int))) U
              have hq2 := List.length_filter_le (fun u : Upd => !decide (chOf C u.key = (k : Int))) U
              generalize U.filter (fun u => decide (chOf C u.key = (k : Int))) = I at *
              generalize U.filter (fun u => !decide (chOf C u.key = (k : Int))) = O at *
              go_wp2_with fail
              refine (thread (HST.out _ HN.out) wr.heap.size wr (Below.refl _ _) (Nat.le_refl _)).mono ?_
              rintro e w6 ⟨⟨a4, y4, nv, rfl, hbx, hnv⟩, hX6, -, -, -, hz6⟩
              obtain ⟨a5, b5, x5, y5, rfl, hc5, hu5⟩ := hnv
              have HBX := Lib.hid hbx
              have HR := Lib.hid (NodeAt.mk' hc5 hu5)
              clear hbx hc5 hu5 HST
              replace n0 := kept_cell hX6 n0
              replace n1 := kept_cell hX6 n1
              replace r0 := kept_cell hX6 r0
              replace r1 := kept_cell hX6 r1
              replace HN := Lib.hid (HN.out.kept hX6 (Nat.le_refl _))
              replace HX := Lib.hid (HX.out.kept hX6 (Nat.le_refl _))
              replace hB1 := hB1.trans (hX6.mono hB1.size)
              replace hX := hX.trans (hX6.mono hX.size)
              clear hX6
              go_upto_region 16 with (fail)
              obtain ⟨W6, hW_W6⟩ : ∃ W6, W6 = ((w6.alloc (.cells #[.slice a4 I.length y4] 29)).alloc (.cells #[.slice a5 C.length x5, .slice b5 O.length y5] 31)) := ⟨_, rfl⟩
              rw [← hW_W6]
              have hX_W6 : Below w6.heap.size w6 W6 := by rw [hW_W6]; go_grown
              have q0 : W6.cell? ⟨w6.heap.size, 0, none⟩ = some (.slice a4 I.length y4) := by rw [hW_W6, World.cell?_alloc_past _ _ _ (by simp <;> omega), World.cell?_alloc_at _ _ _ _ (by simp)]; rfl
              have s0 : W6.cell? ⟨w6.heap.size + 1, 0, none⟩ = some (.slice a5 C.length x5) := by rw [hW_W6, World.cell?_alloc_at _ _ _ _ (by simp)]; rfl
              have s1 : W6.cell? ⟨w6.heap.size + 1, 1, none⟩ = some (.slice b5 O.length y5) := by rw [hW_W6, World.cell?_alloc_at _ _ _ _ (by simp)]; rfl
              clear hW_W6
              have hz_W6 := hX_W6.size
              replace n0 := kept_cell hX_W6 n0
              replace n1 := kept_cell hX_W6 n1
              replace r0 := kept_cell hX_W6 r0
              replace r1 := kept_cell hX_W6 r1
              replace HN := Lib.hid (HN.out.kept hX_W6 (Nat.le_refl _))
              replace HX := Lib.hid (HX.out.kept hX_W6 (Nat.le_refl _))
              replace HBX := Lib.hid (HBX.out.kept hX_W6 (Nat.le_refl _))
              replace HR := Lib.hid (HR.out.kept hX_W6 (Nat.le_refl _))
              replace hB1 := hB1.trans (hX_W6.mono hB1.size)
              replace hX := hX.trans (hX_W6.mono hX.size)
              clear hX_W6
              go_wp2_with fail
              refine (thread (HRT.out _ HX.out) W6.heap.size W6 (Below.refl _ _) (Nat.le_refl _)).mono ?_
              rintro e w7 ⟨⟨a7, y7, a8, y8, rfl, hm7, hm8⟩, hX_w7, -, -, -, hz_w7⟩
              replace n0 := kept_cell hX_w7 n0
              replace n1 := kept_cell hX_w7 n1
              replace r0 := kept_cell hX_w7 r0
              replace r1 := kept_cell hX_w7 r1
              replace q0 := kept_cell hX_w7 q0
              replace s0 := kept_cell hX_w7 s0
              replace s1 := kept_cell hX_w7 s1
              replace HN := Lib.hid (HN.out.kept hX_w7 (Nat.le_refl _))
              replace HX := Lib.hid (HX.out.kept hX_w7 (Nat.le_refl _))
              replace HBX := Lib.hid (HBX.out.kept hX_w7 (Nat.le_refl _))
              replace HR := Lib.hid (HR.out.kept hX_w7 (Nat.le_refl _))
              replace hB1 := hB1.trans (hX_w7.mono hB1.size)
              replace hX := hX.trans (hX_w7.mono hX.size)
              clear hX_w7
              have HM7 := Lib.hid hm7
              have HM8 := Lib.hid hm8
              clear hm7 hm8 HRT
              go_wp2_with fail
              refine (thread (list_next a4 I.length y4 I _ rfl HBX.out (by omega)) w7.heap.size w7 (Below.refl _ _) (Nat.le_refl _)).mono ?_
              rintro e w8 ⟨⟨a9, c9, rfl, hown⟩, hX_w8, -, -, -, hz_w8⟩
              replace n0 := kept_cell hX_w8 n0
              replace n1 := kept_cell hX_w8 n1
              replace r0 := kept_cell hX_w8 r0
              replace r1 := kept_cell hX_w8 r1
              replace q0 := kept_cell hX_w8 q0
              replace s0 := kept_cell hX_w8 s0
              replace s1 := kept_cell hX_w8 s1
              replace HN := Lib.hid (HN.out.kept hX_w8 (Nat.le_refl _))
              replace HX := Lib.hid (HX.out.kept hX_w8 (Nat.le_refl _))
              replace HBX := Lib.hid (HBX.out.kept hX_w8 (Nat.le_refl _))
              replace HR := Lib.hid (HR.out.kept hX_w8 (Nat.le_refl _))
              replace HM7 := Lib.hid (HM7.out.kept hX_w8 (Nat.le_refl _))
              replace HM8 := Lib.hid (HM8.out.kept hX_w8 (Nat.le_refl _))
              replace hB1 := hB1.trans (hX_w8.mono hB1.size)
              replace hX := hX.trans (hX_w8.mono hX.size)
              clear hX_w8
              have HRW := Lib.hid (SlU.of_own hown).2
              clear hown
              go_wp2_with fail
              refine (thread (same20_any a9 I.length c9 a7 y7 I _ rfl HRW.out HM7.out (by omega)) w8.heap.size w8 (Below.refl _ _) (Nat.le_refl _)).mono ?_
              rintro e w9 ⟨rfl, hX_w9, -, -, -, hz_w9⟩
              replace n0 := kept_cell hX_w9 n0
              replace n1 := kept_cell hX_w9 n1
              replace r0 := kept_cell hX_w9 r0
              replace r1 := kept_cell hX_w9 r1
              replace q0 := kept_cell hX_w9 q0
              replace s0 := kept_cell hX_w9 s0
              replace s1 := kept_cell hX_w9 s1
              replace HN := Lib.hid (HN.out.kept hX_w9 (Nat.le_refl _))
              replace HX := Lib.hid (HX.out.kept hX_w9 (Nat.le_refl _))
              replace HBX := Lib.hid (HBX.out.kept hX_w9 (Nat.le_refl _))
              replace HR := Lib.hid (HR.out.kept hX_w9 (Nat.le_refl _))
              replace HM7 := Lib.hid (HM7.out.kept hX_w9 (Nat.le_refl _))
              replace HM8 := Lib.hid (HM8.out.kept hX_w9 (Nat.le_refl _))
              replace hB1 := hB1.trans (hX_w9.mono hB1.size)
              replace hX := hX.trans (hX_w9.mono hX.size)
              clear hX_w9
              clear HRW
              go_wp2_with fail
              refine (thread (list_next b5 O.length y5 O _ rfl (BoxU.mk ⟨_, rfl, HR.out.parts.2⟩) (by omega)) w9.heap.size w9 (Below.refl _ _) (Nat.le_refl _)).mono ?_
              rintro e w91 ⟨⟨a9, c9, rfl, hown⟩, hX_w91, -, -, -, hz_w91⟩
              replace n0 := kept_cell hX_w91 n0
              replace n1 := kept_cell hX_w91 n1
              replace r0 := kept_cell hX_w91 r0
              replace r1 := kept_cell hX_w91 r1
              replace q0 := kept_cell hX_w91 q0
              replace s0 := kept_cell hX_w91 s0
              replace s1 := kept_cell hX_w91 s1
              replace HN := Lib.hid (HN.out.kept hX_w91 (Nat.le_refl _))
              replace HX := Lib.hid (HX.out.kept hX_w91 (Nat.le_refl _))
              replace HBX := Lib.hid (HBX.out.kept hX_w91 (Nat.le_refl _))
              replace HR := Lib.hid (HR.out.kept hX_w91 (Nat.le_refl _))
              replace HM7 := Lib.hid (HM7.out.kept hX_w91 (Nat.le_refl _))
              replace HM8 := Lib.hid (HM8.out.kept hX_w91 (Nat.le_refl _))
              replace hB1 := hB1.trans (hX_w91.mono hB1.size)
              replace hX := hX.trans (hX_w91.mono hX.size)
              clear hX_w91
              have HRW := Lib.hid (SlU.of_own hown).2
              clear hown
              go_wp2_with fail
              refine (thread (same20_any a9 O.length c9 a8 y8 O _ rfl HRW.out HM8.out (by omega)) w91.heap.size w91 (Below.refl _ _) (Nat.le_refl _)).mono ?_
              rintro e wt ⟨rfl, hX_wt, -, -, -, hz_wt⟩
              replace n0 := kept_cell hX_wt n0
              replace n1 := kept_cell hX_wt n1
              replace r0 := kept_cell hX_wt r0
              replace r1 := kept_cell hX_wt r1
              replace q0 := kept_cell hX_wt q0
              replace s0 := kept_cell hX_wt s0
              replace s1 := kept_cell hX_wt s1
              replace HN := Lib.hid (HN.out.kept hX_wt (Nat.le_refl _))
              replace HX := Lib.hid (HX.out.kept hX_wt (Nat.le_refl _))
              replace HBX := Lib.hid (HBX.out.kept hX_wt (Nat.le_refl _))
              replace HR := Lib.hid (HR.out.kept hX_wt (Nat.le_refl _))
              replace HM7 := Lib.hid (HM7.out.kept hX_wt (Nat.le_refl _))
              replace HM8 := Lib.hid (HM8.out.kept hX_wt (Nat.le_refl _))
              replace hB1 := hB1.trans (hX_wt.mono hB1.size)
              replace hX := hX.trans (hX_wt.mono hX.size)
              clear hX_wt
              go_wp2_with fail
              clear q0 s0 s1 HM7 HM8 HBX HR
              clear HRW hc1
              by_cases h2 : 2 ≤ C.length
              · as_aux_lemma =>
                  obtain ⟨hb1, hb2⟩ := halves_bel hKO.out hUr.out (m := (C.length + 1) / 2) (by omega) (by omega)
                  have HHV := Lib.hid (fun W h => halves_some (.agg #[.slice a2 C.length y2, .slice b2 U.length z2]) C U W h h2 (by omega) (by omega) hUr.out ((C.length + 1) / 2) rfl)
                  have HRV := Lib.hid (fun W h => refHalves_some (.agg #[.slice a3 C.length y3, .slice b3 U.length z3]) C U W h h2 (by omega) (by omega) ((C.length + 1) / 2) rfl (fun u => bl u.key (lowAt C ((C.length + 1) / 2))) (fun u => !bl u.key (lowAt C ((C.length + 1) / 2))) (fun u => rfl) (fun u => rfl))
                  have hq1 := List.length_filter_le (fun u : Upd => bl u.key (lowAt C ((C.length + 1) / 2))) U
                  have hq2 := List.length_filter_le (fun u : Upd => !bl u.key (lowAt C ((C.length + 1) / 2))) U
                  have hq3 := List.length_take_le ((C.length + 1) / 2) C
                  have hq4 : (C.take ((C.length + 1) / 2)).length ≤ 1000 := by rw [List.length_take]; omega
                  have hq5 : (headless (C.drop ((C.length + 1) / 2))).length ≤ 1000 := by rw [headless_len, List.length_drop]; omega
                  rw [hb1, hb2] at HHV
                  clear hb1 hb2 hq3
                  generalize (C.length + 1) / 2 = M at *
                  generalize lowAt C M = low at *
                  generalize U.filter (fun u => bl u.key low) = I1 at *
                  generalize U.filter (fun u => !bl u.key low) = I2 at *
                  generalize C.take M = C1 at *
                  generalize headless (C.drop M) = C2 at *
                  refine (thread (HHV.out _ HN.out) wt.heap.size wt (Below.refl _ _) (Nat.le_refl _)).mono ?_
                  rintro e w10 ⟨⟨va, vb, rfl, hva, hvb⟩, hX10, -, -, -, hz10⟩
                  obtain ⟨a10, b10, x10, y10, rfl, hc10, hu10⟩ := hva
                  obtain ⟨a11, b11, x11, y11, rfl, hc11, hu11⟩ := hvb
                  have HA := Lib.hid (NodeAt.mk' hc10 hu10)
                  have HB := Lib.hid (NodeAt.mk' hc11 hu11)
                  clear hc10 hu10 hc11 hu11 HHV
                  replace n0 := kept_cell hX10 n0
                  replace n1 := kept_cell hX10 n1
                  replace r0 := kept_cell hX10 r0
                  replace r1 := kept_cell hX10 r1
                  replace HN := Lib.hid (HN.out.kept hX10 (Nat.le_refl _))
                  replace HX := Lib.hid (HX.out.kept hX10 (Nat.le_refl _))
                  replace hB1 := hB1.trans (hX10.mono hB1.size)
                  replace hX := hX.trans (hX10.mono hX.size)
                  clear hX10
                  go_upto_region 20 with (fail)
                  obtain ⟨W10, hW_W10⟩ : ∃ W10, W10 = ((w10.alloc (.cells #[.slice a10 C1.length x10, .slice b10 I1.length y10] 31)).alloc (.cells #[.slice a11 C2.length x11, .slice b11 I2.length y11] 31)) := ⟨_, rfl⟩
                  rw [← hW_W10]
                  have hX_W10 : Below w10.heap.size w10 W10 := by rw [hW_W10]; go_grown
                  have p0 : W10.cell? ⟨w10.heap.size, 0, none⟩ = some (.slice a10 C1.length x10) := by rw [hW_W10, World.cell?_alloc_past _ _ _ (by simp <;> omega), World.cell?_alloc_at _ _ _ _ (by simp)]; rfl
                  have p1 : W10.cell? ⟨w10.heap.size, 1, none⟩ = some (.slice b10 I1.length y10) := by rw [hW_W10, World.cell?_alloc_past _ _ _ (by simp <;> omega), World.cell?_alloc_at _ _ _ _ (by simp)]; rfl
                  have q0 : W10.cell? ⟨w10.heap.size + 1, 0, none⟩ = some (.slice a11 C2.length x11) := by rw [hW_W10, World.cell?_alloc_at _ _ _ _ (by simp)]; rfl
                  have q1 : W10.cell? ⟨w10.heap.size + 1, 1, none⟩ = some (.slice b11 I2.length y11) := by rw [hW_W10, World.cell?_alloc_at _ _ _ _ (by simp)]; rfl
                  clear hW_W10
                  have hz_W10 := hX_W10.size
                  replace n0 := kept_cell hX_W10 n0
                  replace n1 := kept_cell hX_W10 n1
                  replace r0 := kept_cell hX_W10 r0
                  replace r1 := kept_cell hX_W10 r1
                  replace HN := Lib.hid (HN.out.kept hX_W10 (Nat.le_refl _))
                  replace HX := Lib.hid (HX.out.kept hX_W10 (Nat.le_refl _))
                  replace HA := Lib.hid (HA.out.kept hX_W10 (Nat.le_refl _))
                  replace HB := Lib.hid (HB.out.kept hX_W10 (Nat.le_refl _))
                  replace hB1 := hB1.trans (hX_W10.mono hB1.size)
                  replace hX := hX.trans (hX_W10.mono hX.size)
                  clear hX_W10
                  go_wp2_with fail
                  refine (thread (HRV.out _ HX.out) W10.heap.size W10 (Below.refl _ _) (Nat.le_refl _)).mono ?_
                  rintro e w12 ⟨⟨va, vb, rfl, hva, hvb⟩, hX12, -, -, -, hz12⟩
                  obtain ⟨a12, b12, x12, y12, rfl, hc12, hu12⟩ := hva
                  obtain ⟨a13, b13, x13, y13, rfl, hc13, hu13⟩ := hvb
                  have HA2 := Lib.hid (NodeAt.mk' hc12 hu12)
                  have HB2 := Lib.hid (NodeAt.mk' hc13 hu13)
                  clear hc12 hu12 hc13 hu13 HRV
                  replace n0 := kept_cell hX12 n0
                  replace n1 := kept_cell hX12 n1
                  replace r0 := kept_cell hX12 r0
                  replace r1 := kept_cell hX12 r1
                  replace p0 := kept_cell hX12 p0
                  replace p1 := kept_cell hX12 p1
                  replace q0 := kept_cell hX12 q0
                  replace q1 := kept_cell hX12 q1
                  replace HN := Lib.hid (HN.out.kept hX12 (Nat.le_refl _))
                  replace HX := Lib.hid (HX.out.kept hX12 (Nat.le_refl _))
                  replace HA := Lib.hid (HA.out.kept hX12 (Nat.le_refl _))
                  replace HB := Lib.hid (HB.out.kept hX12 (Nat.le_refl _))
                  replace hB1 := hB1.trans (hX12.mono hB1.size)
                  replace hX := hX.trans (hX12.mono hX.size)
                  clear hX12
                  go_upto_region 21 with (fail)
                  obtain ⟨W12, hW_W12⟩ : ∃ W12, W12 = ((w12.alloc (.cells #[.slice a12 C1.length x12, .slice b12 I1.length y12] 35)).alloc (.cells #[.slice a13 C2.length x13, .slice b13 I2.length y13] 35)) := ⟨_, rfl⟩
                  rw [← hW_W12]
                  have hX_W12 : Below w12.heap.size w12 W12 := by rw [hW_W12]; go_grown
                  have s0 : W12.cell? ⟨w12.heap.size, 0, none⟩ = some (.slice a12 C1.length x12) := by rw [hW_W12, World.cell?_alloc_past _ _ _ (by simp <;> omega), World.cell?_alloc_at _ _ _ _ (by simp)]; rfl
                  have s1 : W12.cell? ⟨w12.heap.size, 1, none⟩ = some (.slice b12 I1.length y12) := by rw [hW_W12, World.cell?_alloc_past _ _ _ (by simp <;> omega), World.cell?_alloc_at _ _ _ _ (by simp)]; rfl
                  have t0 : W12.cell? ⟨w12.heap.size + 1, 0, none⟩ = some (.slice a13 C2.length x13) := by rw [hW_W12, World.cell?_alloc_at _ _ _ _ (by simp)]; rfl
                  have t1 : W12.cell? ⟨w12.heap.size + 1, 1, none⟩ = some (.slice b13 I2.length y13) := by rw [hW_W12, World.cell?_alloc_at _ _ _ _ (by simp)]; rfl
                  clear hW_W12
                  have hz_W12 := hX_W12.size
                  replace n0 := kept_cell hX_W12 n0
                  replace n1 := kept_cell hX_W12 n1
                  replace r0 := kept_cell hX_W12 r0
                  replace r1 := kept_cell hX_W12 r1
                  replace p0 := kept_cell hX_W12 p0
                  replace p1 := kept_cell hX_W12 p1
                  replace q0 := kept_cell hX_W12 q0
                  replace q1 := kept_cell hX_W12 q1
                  replace HN := Lib.hid (HN.out.kept hX_W12 (Nat.le_refl _))
                  replace HX := Lib.hid (HX.out.kept hX_W12 (Nat.le_refl _))
                  replace HA := Lib.hid (HA.out.kept hX_W12 (Nat.le_refl _))
                  replace HB := Lib.hid (HB.out.kept hX_W12 (Nat.le_refl _))
                  replace HA2 := Lib.hid (HA2.out.kept hX_W12 (Nat.le_refl _))
                  replace HB2 := Lib.hid (HB2.out.kept hX_W12 (Nat.le_refl _))
                  replace hB1 := hB1.trans (hX_W12.mono hB1.size)
                  replace hX := hX.trans (hX_W12.mono hX.size)
                  clear hX_W12
                  go_wp2_with fail
                  refine (thread (equal20_any _ _ C1 I1 W12 HA.out HA2.out (by omega) (by omega)) W12.heap.size W12 (Below.refl _ _) (Nat.le_refl _)).mono ?_
                  rintro e w14 ⟨rfl, hX_w14, -, -, -, hz_w14⟩
                  replace n0 := kept_cell hX_w14 n0
                  replace n1 := kept_cell hX_w14 n1
                  replace r0 := kept_cell hX_w14 r0
                  replace r1 := kept_cell hX_w14 r1
                  replace p0 := kept_cell hX_w14 p0
                  replace p1 := kept_cell hX_w14 p1
                  replace q0 := kept_cell hX_w14 q0
                  replace q1 := kept_cell hX_w14 q1
                  replace s0 := kept_cell hX_w14 s0
                  replace s1 := kept_cell hX_w14 s1
                  replace t0 := kept_cell hX_w14 t0
                  replace t1 := kept_cell hX_w14 t1
                  replace HN := Lib.hid (HN.out.kept hX_w14 (Nat.le_refl _))
                  replace HX := Lib.hid (HX.out.kept hX_w14 (Nat.le_refl _))
                  replace HA := Lib.hid (HA.out.kept hX_w14 (Nat.le_refl _))
                  replace HB := Lib.hid (HB.out.kept hX_w14 (Nat.le_refl _))
                  replace HA2 := Lib.hid (HA2.out.kept hX_w14 (Nat.le_refl _))
                  replace HB2 := Lib.hid (HB2.out.kept hX_w14 (Nat.le_refl _))
                  replace hB1 := hB1.trans (hX_w14.mono hB1.size)
                  replace hX := hX.trans (hX_w14.mono hX.size)
                  clear hX_w14
                  go_wp2_with fail
                  refine (thread (equal20_any _ _ C2 I2 w14 HB.out HB2.out (by omega) (by omega)) w14.heap.size w14 (Below.refl _ _) (Nat.le_refl _)).mono ?_
                  rintro e w15 ⟨rfl, hX_w15, -, -, -, hz_w15⟩
                  replace n0 := kept_cell hX_w15 n0
                  replace n1 := kept_cell hX_w15 n1
                  replace r0 := kept_cell hX_w15 r0
                  replace r1 := kept_cell hX_w15 r1
                  replace p0 := kept_cell hX_w15 p0
                  replace p1 := kept_cell hX_w15 p1
                  replace q0 := kept_cell hX_w15 q0
                  replace q1 := kept_cell hX_w15 q1
                  replace s0 := kept_cell hX_w15 s0
                  replace s1 := kept_cell hX_w15 s1
                  replace t0 := kept_cell hX_w15 t0
                  replace t1 := kept_cell hX_w15 t1
                  replace HN := Lib.hid (HN.out.kept hX_w15 (Nat.le_refl _))
                  replace HX := Lib.hid (HX.out.kept hX_w15 (Nat.le_refl _))
                  replace HA := Lib.hid (HA.out.kept hX_w15 (Nat.le_refl _))
                  replace HB := Lib.hid (HB.out.kept hX_w15 (Nat.le_refl _))
                  replace HA2 := Lib.hid (HA2.out.kept hX_w15 (Nat.le_refl _))
                  replace HB2 := Lib.hid (HB2.out.kept hX_w15 (Nat.le_refl _))
                  replace hB1 := hB1.trans (hX_w15.mono hB1.size)
                  replace hX := hX.trans (hX_w15.mono hX.size)
                  clear hX_w15
                  go_wp2_with fail
                  refine (thread (equal20_any _ _ C U w15 HN.out HX.out (by omega) (by omega)) w15.heap.size w15 (Below.refl _ _) (Nat.le_refl _)).mono ?_
                  rintro e w16 ⟨rfl, hX_w16, -, -, -, hz_w16⟩
                  replace n0 := kept_cell hX_w16 n0
                  replace n1 := kept_cell hX_w16 n1
                  replace r0 := kept_cell hX_w16 r0
                  replace r1 := kept_cell hX_w16 r1
                  replace p0 := kept_cell hX_w16 p0
                  replace p1 := kept_cell hX_w16 p1
                  replace q0 := kept_cell hX_w16 q0
                  replace q1 := kept_cell hX_w16 q1
                  replace s0 := kept_cell hX_w16 s0
                  replace s1 := kept_cell hX_w16 s1
                  replace t0 := kept_cell hX_w16 t0
                  replace t1 := kept_cell hX_w16 t1
                  replace HN := Lib.hid (HN.out.kept hX_w16 (Nat.le_refl _))
                  replace HX := Lib.hid (HX.out.kept hX_w16 (Nat.le_refl _))
                  replace HA := Lib.hid (HA.out.kept hX_w16 (Nat.le_refl _))
                  replace HB := Lib.hid (HB.out.kept hX_w16 (Nat.le_refl _))
                  replace HA2 := Lib.hid (HA2.out.kept hX_w16 (Nat.le_refl _))
                  replace HB2 := Lib.hid (HB2.out.kept hX_w16 (Nat.le_refl _))
                  replace hB1 := hB1.trans (hX_w16.mono hB1.size)
                  replace hX := hX.trans (hX_w16.mono hX.size)
                  clear hX_w16
                  go_wp2_with fail
                  exact ⟨⟨j + 1, by go_num, by omega, hX⟩, by simp [intOf]; omega⟩
              · as_aux_lemma =>
                  have HHV := Lib.hid (fun W h => halves_none (.agg #[.slice a2 C.length y2, .slice b2 U.length z2]) C U W h (by omega))
                  have HRV := Lib.hid (fun W h => refHalves_none (.agg #[.slice a3 C.length y3, .slice b3 U.length z3]) C U W h (by omega))
                  refine (thread (HHV.out _ HN.out) wt.heap.size wt (Below.refl _ _) (Nat.le_refl _)).mono ?_
                  rintro e w10 ⟨rfl, hX10, -, -, -, hz10⟩
                  replace n0 := kept_cell hX10 n0
                  replace n1 := kept_cell hX10 n1
                  replace r0 := kept_cell hX10 r0
                  replace r1 := kept_cell hX10 r1
                  replace HN := Lib.hid (HN.out.kept hX10 (Nat.le_refl _))
                  replace HX := Lib.hid (HX.out.kept hX10 (Nat.le_refl _))
                  replace hB1 := hB1.trans (hX10.mono hB1.size)
                  replace hX := hX.trans (hX10.mono hX.size)
                  clear hX10
                  go_upto_region 20 with (fail)
                  obtain ⟨W10, hW_W10⟩ : ∃ W10, W10 = ((w10.alloc (.cells #[.slice none 0 0, .slice none 0 0] 31)).alloc (.cells #[.slice none 0 0, .slice none 0 0] 31)) := ⟨_, rfl⟩
                  rw [← hW_W10]
                  have hX_W10 : Below w10.heap.size w10 W10 := by rw [hW_W10]; go_grown
                  have p0 : W10.cell? ⟨w10.heap.size, 0, none⟩ = some (.slice none 0 0) := by rw [hW_W10, World.cell?_alloc_past _ _ _ (by simp <;> omega), World.cell?_alloc_at _ _ _ _ (by simp)]; rfl
                  have p1 : W10.cell? ⟨w10.heap.size, 1, none⟩ = some (.slice none 0 0) := by rw [hW_W10, World.cell?_alloc_past _ _ _ (by simp <;> omega), World.cell?_alloc_at _ _ _ _ (by simp)]; rfl
                  have q0 : W10.cell? ⟨w10.heap.size + 1, 0, none⟩ = some (.slice none 0 0) := by rw [hW_W10, World.cell?_alloc_at _ _ _ _ (by simp)]; rfl
                  have q1 : W10.cell? ⟨w10.heap.size + 1, 1, none⟩ = some (.slice none 0 0) := by rw [hW_W10, World.cell?_alloc_at _ _ _ _ (by simp)]; rfl
                  clear hW_W10
                  have hz_W10 := hX_W10.size
                  replace n0 := kept_cell hX_W10 n0
                  replace n1 := kept_cell hX_W10 n1
                  replace r0 := kept_cell hX_W10 r0
                  replace r1 := kept_cell hX_W10 r1
                  replace HN := Lib.hid (HN.out.kept hX_W10 (Nat.le_refl _))
                  replace HX := Lib.hid (HX.out.kept hX_W10 (Nat.le_refl _))
                  replace hB1 := hB1.trans (hX_W10.mono hB1.size)
                  replace hX := hX.trans (hX_W10.mono hX.size)
                  clear hX_W10
                  go_wp2_with fail
                  refine (thread (HRV.out _ HX.out) W10.heap.size W10 (Below.refl _ _) (Nat.le_refl _)).mono ?_
                  rintro e w12 ⟨rfl, hX12, -, -, -, hz12⟩
                  replace n0 := kept_cell hX12 n0
                  replace n1 := kept_cell hX12 n1
                  replace r0 := kept_cell hX12 r0
                  replace r1 := kept_cell hX12 r1
                  replace p0 := kept_cell hX12 p0
                  replace p1 := kept_cell hX12 p1
                  replace q0 := kept_cell hX12 q0
                  replace q1 := kept_cell hX12 q1
                  replace HN := Lib.hid (HN.out.kept hX12 (Nat.le_refl _))
                  replace HX := Lib.hid (HX.out.kept hX12 (Nat.le_refl _))
                  replace hB1 := hB1.trans (hX12.mono hB1.size)
                  replace hX := hX.trans (hX12.mono hX.size)
                  clear hX12
                  go_upto_region 21 with (fail)
                  obtain ⟨W12, hW_W12⟩ : ∃ W12, W12 = ((w12.alloc (.cells #[.slice none 0 0, .slice none 0 0] 35)).alloc (.cells #[.slice none 0 0, .slice none 0 0] 35)) := ⟨_, rfl⟩
                  rw [← hW_W12]
                  have hX_W12 : Below w12.heap.size w12 W12 := by rw [hW_W12]; go_grown
                  have s0 : W12.cell? ⟨w12.heap.size, 0, none⟩ = some (.slice none 0 0) := by rw [hW_W12, World.cell?_alloc_past _ _ _ (by simp <;> omega), World.cell?_alloc_at _ _ _ _ (by simp)]; rfl
                  have s1 : W12.cell? ⟨w12.heap.size, 1, none⟩ = some (.slice none 0 0) := by rw [hW_W12, World.cell?_alloc_past _ _ _ (by simp <;> omega), World.cell?_alloc_at _ _ _ _ (by simp)]; rfl
                  have t0 : W12.cell? ⟨w12.heap.size + 1, 0, none⟩ = some (.slice none 0 0) := by rw [hW_W12, World.cell?_alloc_at _ _ _ _ (by simp)]; rfl
                  have t1 : W12.cell? ⟨w12.heap.size + 1, 1, none⟩ = some (.slice none 0 0) := by rw [hW_W12, World.cell?_alloc_at _ _ _ _ (by simp)]; rfl
                  clear hW_W12
                  have hz_W12 := hX_W12.size
                  replace n0 := kept_cell hX_W12 n0
                  replace n1 := kept_cell hX_W12 n1
                  replace r0 := kept_cell hX_W12 r0
                  replace r1 := kept_cell hX_W12 r1
                  replace p0 := kept_cell hX_W12 p0
                  replace p1 := kept_cell hX_W12 p1
                  replace q0 := kept_cell hX_W12 q0
                  replace q1 := kept_cell hX_W12 q1
                  replace HN := Lib.hid (HN.out.kept hX_W12 (Nat.le_refl _))
                  replace HX := Lib.hid (HX.out.kept hX_W12 (Nat.le_refl _))
                  replace hB1 := hB1.trans (hX_W12.mono hB1.size)
                  replace hX := hX.trans (hX_W12.mono hX.size)
                  clear hX_W12
                  go_wp2_with fail
                  refine (thread (equal20_any _ _ [] [] W12 (NodeAt.mk' (SlC.nil _) (SlU.nil _)) (NodeAt.mk' (SlC.nil _) (SlU.nil _)) (by simp) (by simp)) W12.heap.size W12 (Below.refl _ _) (Nat.le_refl _)).mono ?_
                  rintro e w14 ⟨rfl, hX_w14, -, -, -, hz_w14⟩
                  replace n0 := kept_cell hX_w14 n0
                  replace n1 := kept_cell hX_w14 n1
                  replace r0 := kept_cell hX_w14 r0
                  replace r1 := kept_cell hX_w14 r1
                  replace p0 := kept_cell hX_w14 p0
                  replace p1 := kept_cell hX_w14 p1
                  replace q0 := kept_cell hX_w14 q0
                  replace q1 := kept_cell hX_w14 q1
                  replace s0 := kept_cell hX_w14 s0
                  replace s1 := kept_cell hX_w14 s1
                  replace t0 := kept_cell hX_w14 t0
                  replace t1 := kept_cell hX_w14 t1
                  replace HN := Lib.hid (HN.out.kept hX_w14 (Nat.le_refl _))
                  replace HX := Lib.hid (HX.out.kept hX_w14 (Nat.le_refl _))
                  replace hB1 := hB1.trans (hX_w14.mono hB1.size)
                  replace hX := hX.trans (hX_w14.mono hX.size)
                  clear hX_w14
                  go_wp2_with fail
                  refine (thread (equal20_any _ _ [] [] w14 (NodeAt.mk' (SlC.nil _) (SlU.nil _)) (NodeAt.mk' (SlC.nil _) (SlU.nil _)) (by simp) (by simp)) w14.heap.size w14 (Below.refl _ _) (Nat.le_refl _)).mono ?_
                  rintro e w15 ⟨rfl, hX_w15, -, -, -, hz_w15⟩
                  replace n0 := kept_cell hX_w15 n0
                  replace n1 := kept_cell hX_w15 n1
                  replace r0 := kept_cell hX_w15 r0
                  replace r1 := kept_cell hX_w15 r1
                  replace p0 := kept_cell hX_w15 p0
                  replace p1 := kept_cell hX_w15 p1
                  replace q0 := kept_cell hX_w15 q0
                  replace q1 := kept_cell hX_w15 q1
                  replace s0 := kept_cell hX_w15 s0
                  replace s1 := kept_cell hX_w15 s1
                  replace t0 := kept_cell hX_w15 t0
                  replace t1 := kept_cell hX_w15 t1
                  replace HN := Lib.hid (HN.out.kept hX_w15 (Nat.le_refl _))
                  replace HX := Lib.hid (HX.out.kept hX_w15 (Nat.le_refl _))
                  replace hB1 := hB1.trans (hX_w15.mono hB1.size)
                  replace hX := hX.trans (hX_w15.mono hX.size)
                  clear hX_w15
                  go_wp2_with fail
                  refine (thread (equal20_any _ _ C U w15 HN.out HX.out (by omega) (by omega)) w15.heap.size w15 (Below.refl _ _) (Nat.le_refl _)).mono ?_
                  rintro e w16 ⟨rfl, hX_w16, -, -, -, hz_w16⟩
                  replace n0 := kept_cell hX_w16 n0
                  replace n1 := kept_cell hX_w16 n1
                  replace r0 := kept_cell hX_w16 r0
                  replace r1 := kept_cell hX_w16 r1
                  replace p0 := kept_cell hX_w16 p0
                  replace p1 := kept_cell hX_w16 p1
                  replace q0 := kept_cell hX_w16 q0
                  replace q1 := kept_cell hX_w16 q1
                  replace s0 := kept_cell hX_w16 s0
                  replace s1 := kept_cell hX_w16 s1
                  replace t0 := kept_cell hX_w16 t0
                  replace t1 := kept_cell hX_w16 t1
                  replace HN := Lib.hid (HN.out.kept hX_w16 (Nat.le_refl _))
                  replace HX := Lib.hid (HX.out.kept hX_w16 (Nat.le_refl _))
                  replace hB1 := hB1.trans (hX_w16.mono hB1.size)
                  replace hX := hX.trans (hX_w16.mono hX.size)
                  clear hX_w16
                  go_wp2_with fail
                  exact ⟨⟨j + 1, by go_num, by omega, hX⟩, by simp [intOf]; omega⟩
    · obtain rfl : j = 2 := by omega
      go_wp2_with fail
      refine (thread (wakes20_any _) wo.heap.size wo (Below.refl _ _) (Nat.le_refl _)).mono ?_
      rintro e w3 ⟨rfl, hX_w3, -, -, -, hz_w3⟩
      replace hB1 := hB1.trans (hX_w3.mono hB1.size)
      clear hX_w3
      go_wp2_with fail
      go_ret
      exact ⟨rfl, hB1⟩

end Go.Proofs.Ytlmlmkeomlehmaa
