/-
  The walk of SeekSkips.
-/
import Derived.Test.YthcjcmalfnfjkaaSkx
import Derived.Deep.DeepCutAuto
import Derived.BigQuiet
namespace Go.Proofs.Ythcjcmalfnfjkaa
open Go.RowKit
set_option linter.unusedVariables false
attribute [local go_sem ↓] Go.wp_at_zero Go.wp_at_succ

/-- What the loop of SeekSkips holds. -/
structure SkAt (L : List Ent) (C : CurS) : Prop where
  ok : CurOk L C
  high : C.high = []
  short : C.place.length ≤ 10

set_option maxRecDepth 100000 in
set_option maxHeartbeats 16000000 in
theorem seekSkips_walk (ao : Option Addr) (c : Nat) (l : List Int) (bo : Option Addr) (d : Nat) (steps : List Int) (ch : Nat) (w : World) (hs : SlAt (fun x : Int => [Value.int .u8 x]) 1 w ao l) (hc : l.length ≤ c) (hx : ∀ x ∈ l, 0 ≤ x ∧ x < 256) (hl : (l.length : Int) ≤ 9223372036854775807)
    (hb : SlAt (fun x : Int => [Value.int .u8 x]) 1 w bo steps) (hd : steps.length ≤ d) (hy : ∀ x ∈ steps, 0 ≤ x ∧ x < 256) (hch : ch < 256) :
    Calls Try.prog 8 #[.slice ao l.length c, .slice bo steps.length d, .int .u8 ch] w fun e w' => e = .returned (.bool true) ∧ Below w.heap.size w w' := by
  have hmin := fun ts t a b w => run_tmin (P := Try.prog) ts t a b w
  have hmax := fun ts t a b w => run_maxS (P := Try.prog) ts t a b w
  have hm : tmin (steps.length : Int) 60 = ((min steps.length 60 : Nat) : Int) := tmin_nat _ 60
  generalize hM : min steps.length 60 = m at *
  have hmx : m ≤ steps.length := by omega
  have hm60 : m ≤ 60 := by omega
  have hcut := fun W => cut_u8 bo steps.length d m hmx hd W
  have hcv2 := fun w n c => run_str2 (P := Try.prog) 61 9 5 Try.underlying61 Try.underlying5 Try.underlying9 w n c
  obtain ⟨hLr, hLl, hLk⟩ := made_ok l
  have hLk2 : ∀ x ∈ madeL l, x.key.length ≤ 2 := fun x hx => by
    obtain ⟨k, -, rfl⟩ := (madeTo_rise l 256 (by omega)).2 x hx; simp [entK]
  have HMA := Lib.hid (made_any ao c l w hs hc hx hl)
  have HB := Lib.hid hb
  have HY := Lib.hid hy
  have HLR := Lib.hid hLr
  have HLK := Lib.hid hLk
  have HLK2 := Lib.hid hLk2
  clear hs hx hb hy hM hLr hLk hLk2
  generalize madeL l = L at *
  go_enter Try.func8, Try.ntmps8
  go_wp2_with fail
  refine HMA.out.mono ?_
  rintro e w1 ⟨rfl, hsh, hB1⟩
  have hq1 : w.heap.size < w1.heap.size := hsh.lt
  have HSH := Lib.hid hsh
  clear HMA hsh
  go_wp2_with fail
  have hn : (1 : Int) + (ch : Int) % 20 = ((1 + ch % 20 : Nat) : Int) := by omega
  rw [hn]
  have hn1 : 1 ≤ 1 + ch % 20 ∧ 1 + ch % 20 ≤ 20 := by omega
  generalize 1 + ch % 20 = n at *
  clear hn
  refine (new_ok w.heap.size [] [] n w1 hn1.1 (by omega)).mono ?_
  rintro e w2 ⟨rfl, rfl⟩
  obtain ⟨w2, hw2⟩ : ∃ w2, w2 = w1.alloc (.cells (curCells w.heap.size [] [] n) 105) := ⟨_, rfl⟩
  rw [← hw2]
  have hS2 := St.fresh HSH.out (Nat.le_refl _) hq1 [] [] n
  rw [← hw2] at hS2
  have hB2 : Below w.heap.size w w2 := by rw [hw2]; exact hB1.alloc (by omega) _
  have hz2 := hS2.le
  have HS2 := Lib.hid hS2
  have HC2 := Lib.hid (show SkAt L ⟨[], [], n, [], false⟩ from ⟨CurOk.fresh HLR.out [] [] n hn1.1, rfl, by simp⟩)
  clear hw2 hS2 hB1 HSH
  go_wp2_with fail
  refine (thread (wakes22_any w2) w2.heap.size w2 (Below.refl _ _) (Nat.le_refl _)).mono ?_
  rintro e w3 ⟨rfl, hX3, -, -, -, hz3⟩
  have HS3 := Lib.hid (HS2.out.on hX3)
  have hB3 := hB2.trans (hX3.mono hB2.size)
  clear hX3 HS2 hB2
  go_wp2_with fail
  go_loopw [49, 10] (fun i s10 wr => ∃ (j : Nat) (A : List Int) (C : CurS) (va : Value), i = .int .i64 j ∧ j ≤ m ∧ s10 = .string (S C.place) ∧ Hid (SkAt L C) ∧ A.length ≤ j ∧ Hid (St wr w1.heap.size (w1.heap.size + 1) w1.heap.size w.heap.size va L 0 A C) ∧ Below w.heap.size w wr) (fun i _ _ => m - (intOf i).toNat)
  case atStart => exact ⟨0, [], ⟨[], [], n, [], false⟩, .slice none 0 0, rfl, Nat.zero_le _, rfl, HC2, by simp, HS3, hB3⟩
  case round =>
    obtain ⟨j, A, C, va, rfl, hj, rfl, HC, hAj, HS, hB⟩ := hrel
    obtain ⟨wo, hwo⟩ : ∃ wo, wo = wr := ⟨_, rfl⟩
    subst hwo
    have hj0 : (0 : Int) ≤ (j : Int) := Int.natCast_nonneg _
    have hzo := HS.out.le
    have hpl := HC.out.short
    by_cases hjm : j < m
    · have hj1 : (j : Int) < (m : Int) := by omega
      have hjl : j < steps.length := by omega
      obtain ⟨b, off, rfl, hb, hcl⟩ := (HB.out.kept hB (Nat.le_refl _)).at (by omega)
      have q0 := hcl j hjl 0 _ rfl
      simp only [Nat.add_zero, Nat.mul_one] at q0
      obtain ⟨hx0, hx1⟩ := HY.out _ (List.getElem_mem hjl)
      clear hcl
      generalize steps[j] = x at *
      obtain ⟨y, rfl⟩ := Int.eq_ofNat_of_zero_le hx0
      by_cases hy3 : y % 3 = 0
      · have hy3' : (y : Int) % 3 = 0 := by omega
        have hy3b : ((y : Int) % 3 == 0) = true := by simp [hy3']
        go_upto_region 11 with (fail)
        have hX0 := Below.refl wo.heap.size wo
        obtain ⟨W, hW_W⟩ : ∃ W, W = (wo.alloc (.cells #[.int .u8 (y : Int), .int .u8 107] 5)) := ⟨_, rfl⟩
        rw [← hW_W]
        have hX_W : Below wo.heap.size wo W := by rw [hW_W]; go_grown
        have z0 : W.cell? ⟨wo.heap.size, 0, none⟩ = some (.int .u8 (y : Int)) := by rw [hW_W, World.cell?_alloc_at _ _ _ _ (by simp)]; rfl
        have z1 : W.cell? ⟨wo.heap.size, 1, none⟩ = some (.int .u8 107) := by rw [hW_W, World.cell?_alloc_at _ _ _ _ (by simp)]; rfl
        clear hW_W
        have hz_W := hX_W.size
        replace hB := hB.trans (hX_W.mono hB.size)
        replace hX0 := hX0.trans (hX_W.mono hX0.size)
        clear hX_W
        obtain ⟨s1, s2, s3⟩ := skip_ok HC.out.ok [UInt8.ofNat y, 107]
        go_wp2_with fail
        refine (skip_any _ _ _ _ va L A 0 C [UInt8.ofNat y, 107] W (HS.out.on hX0)).mono ?_
        rintro e w4 ⟨rfl, hst, hch⟩
        have hB4 := hch.below hB (by omega) (Nat.le_refl _) (fun i e => by have := (HS.out.sh.own.lt i e).1; omega) hB.size
        have hs3l : (skipS C [UInt8.ofNat y, 107]).place.length ≤ 10 := by
          rw [s3]; unfold maxS; split
          · simp
          · exact hpl
        have HS4 := Lib.hid hst
        clear hst hch z0 z1
        go_wp2_with fail
        exact ⟨⟨j + 1, A, skipS C [UInt8.ofNat y, 107], va, by go_num, by omega, by rw [s3], Lib.hid ⟨s1, s2.trans HC.out.high, hs3l⟩, by omega, HS4, hB4⟩, by simp [intOf]; omega⟩
      · have hy3b : ((y : Int) % 3 == 0) = false := by simp; omega
        go_upto_region 14 with (fail)
        have hX0 := Below.refl wo.heap.size wo
        obtain ⟨W, hW_W⟩ : ∃ W, W = (wo.alloc (.cells #[.string ⟨#[]⟩, .string ⟨#[]⟩] 68)) := ⟨_, rfl⟩
        rw [← hW_W]
        have hX_W : Below wo.heap.size wo W := by rw [hW_W]; go_grown
        have g0 : W.cell? ⟨wo.heap.size, 0, none⟩ = some (.string ⟨#[]⟩) := by rw [hW_W, World.cell?_alloc_at _ _ _ _ (by simp)]; rfl
        have g1 : W.cell? ⟨wo.heap.size, 1, none⟩ = some (.string ⟨#[]⟩) := by rw [hW_W, World.cell?_alloc_at _ _ _ _ (by simp)]; rfl
        have gf0 : W.frozen? ⟨wo.heap.size, 0, none⟩ = false := by rw [hW_W, World.frozen?_alloc_at _ _ _ _ (by simp)]
        have gf1 : W.frozen? ⟨wo.heap.size, 1, none⟩ = false := by rw [hW_W, World.frozen?_alloc_at _ _ _ _ (by simp)]
        clear hW_W
        have hz_W := hX_W.size
        replace hB := hB.trans (hX_W.mono hB.size)
        replace hX0 := hX0.trans (hX_W.mono hX0.size)
        clear hX_W
        have HSW := Lib.hid (HS.out.on hX0)
        have hNT : NotAt W w1.heap.size wo.heap.size := (HS.out.notAt (z := wo.heap.size) (Nat.le_refl _)).grow (hX0.block _ (by omega))
        have HNT := Lib.hid hNT
        obtain ⟨aL, cL, h0, hr⟩ := HSW.out.sh.c0
        have HR := Lib.hid hr
        have hWs : wo.heap.size < W.heap.size := World.block_lt_of_cell? W _ g0
        have hneq := fun a b w => ent_neq_same a b w
        have hgrd := fun op x y xs ys w => ent_guard op x y xs ys w
        clear hr hNT
        cases hrem : remL L C with
        | nil =>
          have hno := none_at L C.place (by have := hrem; unfold remL at this; rw [HC.out.high] at this; exact this)
          have HNO := Lib.hid hno
          clear hno
          go_wp2_with fail
          go_loopw [71, 15] (fun i s15 wr => ∃ (q : Nat), i = .int .i64 q ∧ q ≤ L.length ∧ s15 = .bool false ∧ Below W.heap.size W wr) (fun i _ _ => L.length - (intOf i).toNat)
          case atStart => exact ⟨0, rfl, by omega, rfl, Below.refl _ _⟩
          case round =>
            obtain ⟨q, rfl, hq, rfl, hXi⟩ := hrel
            have hq0 : (0 : Int) ≤ (q : Int) := Int.natCast_nonneg _
            have hzi := hXi.size
            by_cases hql : q < L.length
            · have hq1' : (q : Int) < (L.length : Int) := by omega
              rcases HR.out with hr | ⟨b2, off2, rfl, hb1, hbq, hcl⟩
              · rw [hr] at hql; simp at hql
              have d0 := kept_cell hXi (hcl q hql 0 _ rfl)
              have d1 := kept_cell hXi (hcl q hql 1 _ rfl)
              rw [Nat.add_zero] at d0
              have hbl : Op.bytesLess L[q].key C.place = true := HNO.out _ (List.getElem_mem hql)
              clear hcl
              generalize L[q] = u at *
              go_wp2_with fail
              exact ⟨⟨q + 1, by go_num, by omega, rfl, by go_grown⟩, by simp [intOf]; omega⟩
            · obtain rfl : q = L.length := by omega
              obtain ⟨w5, hw5⟩ : ∃ w5, w5 = wr := ⟨_, rfl⟩
              subst hw5
              have HS5 := Lib.hid (HSW.out.on hXi)
              have hB5 := hB.trans (hXi.mono hB.size)
              replace g0 := kept_cell hXi g0
              replace g1 := kept_cell hXi g1
              clear hXi h0
              have hpl2 := next_place (fail := 0) (A := A) HC.out.ok
              obtain ⟨g1', g2', g3', g4'⟩ := next_spec (fail := 0) (A := A) HC.out.ok
              have hna := nextS_asks L 0 A C
              have hfa := fillS_asks L 0 A C
              rw [← hna] at hfa
              clear hna
              have hN := next_any _ _ _ _ va L A 0 C w5 HS5.out (by omega) (by omega) (fun x hx => Nat.le_trans (HLK.out x ((nextS_big HLK.out (cur_sub HC.out.ok)).1 x hx)) (by omega))
              generalize nextS L 0 A C = R at *
              obtain ⟨o, err, A', C'⟩ := R
              dsimp only at *
              rcases g4' with ⟨rfl, g5, g6⟩ | ⟨-, -, -, g7⟩
              rotate_left
              · omega
              rw [hrem] at g5
              simp at g5
              subst g5
              dsimp only at hpl2
              have HN := Lib.hid hN
              have HC5 := Lib.hid (show SkAt L C' from ⟨g1', g2'.trans HC.out.high, by rw [hpl2]; exact hpl⟩)
              have HPL := Lib.hid hpl2
              clear hN g1' g2' g3' g6 hpl2
              go_wp2_with fail
              refine HN.out.mono ?_
              rintro e w6 ⟨rfl, vb, hst, hch, hvb, -⟩
              have hva : va.ownBlock ≠ some wo.heap.size := fun e => by have := (HS.out.sh.own.lt _ e).2; omega
              have k0 := hch.cell g0 (by omega) (by omega) hva
              have k1 := hch.cell g1 (by omega) (by omega) hva
              have hB6 := hch.below hB5 (by omega) (Nat.le_refl _) (fun i e => by have := (HS.out.sh.own.lt i e).1; omega) hB5.size
              have HS6 := Lib.hid hst
              have hkl6 := World.block_lt_of_cell? w6 _ k0
              unfold tellV entO
              simp only [Option.isSome]
              clear hst hch hvb HN g0 g1 HS5 hB5
              go_upto_region 21 with (fail)
              have hX6 := Below.refl w6.heap.size w6
              obtain ⟨W7, hW_W7⟩ : ∃ W7, W7 = (w6.alloc (.cells #[.string ⟨#[]⟩, .string ⟨#[]⟩] 55)) := ⟨_, rfl⟩
              rw [← hW_W7]
              have hX_W7 : Below w6.heap.size w6 W7 := by rw [hW_W7]; go_grown
              have u0 : W7.cell? ⟨w6.heap.size, 0, none⟩ = some (.string ⟨#[]⟩) := by rw [hW_W7, World.cell?_alloc_at _ _ _ _ (by simp)]; rfl
              have u1 : W7.cell? ⟨w6.heap.size, 1, none⟩ = some (.string ⟨#[]⟩) := by rw [hW_W7, World.cell?_alloc_at _ _ _ _ (by simp)]; rfl
              clear hW_W7
              have hz_W7 := hX_W7.size
              replace k0 := kept_cell hX_W7 k0
              replace k1 := kept_cell hX_W7 k1
              replace hB6 := hB6.trans (hX_W7.mono hB6.size)
              replace hX6 := hX6.trans (hX_W7.mono hX6.size)
              clear hX_W7
              have HS7 := Lib.hid (HS6.out.on hX6)
              go_wp2_with fail
              exact ⟨⟨j + 1, A', C', vb, by go_num, by omega, by rw [HPL.out], HC5, by omega, HS7, hB6⟩, by simp [intOf]; omega⟩
        | cons x t =>
          obtain ⟨i0, hi0, hix, hbx, hbj⟩ := head_at L C.place x t (by have := hrem; unfold remL at this; rw [HC.out.high] at this; exact this)
          have hxL : x ∈ L := by rw [← hix]; exact List.getElem_mem hi0
          have HBJ := Lib.hid hbj
          have HIX := Lib.hid hix
          have hbx' : Op.bytesLess x.key C.place = false := hbx
          have hxk : x.key.length ≤ 2 := HLK2.out x hxL
          clear hbj hix hbx
          go_wp2_with fail
          go_loopw [71, 15] (fun i s15 wr => ∃ (q : Nat), i = .int .i64 q ∧ q ≤ i0 ∧ s15 = .bool false ∧ Below W.heap.size W wr) (fun i _ _ => L.length - (intOf i).toNat)
          case atStart => exact ⟨0, rfl, by omega, rfl, Below.refl _ _⟩
          case round =>
            obtain ⟨q, rfl, hq, rfl, hXi⟩ := hrel
            have hq0 : (0 : Int) ≤ (q : Int) := Int.natCast_nonneg _
            have hzi := hXi.size
            have hql : q < L.length := by omega
            have hq1' : (q : Int) < (L.length : Int) := by omega
            rcases HR.out with hr | ⟨b2, off2, rfl, hb1, hbq, hcl⟩
            · rw [hr] at hql; simp at hql
            have d0 := kept_cell hXi (hcl q hql 0 _ rfl)
            have d1 := kept_cell hXi (hcl q hql 1 _ rfl)
            rw [Nat.add_zero] at d0
            clear hcl
            by_cases hqi : q < i0
            · have hbl : Op.bytesLess L[q].key C.place = true := HBJ.out q hqi
              generalize L[q] = u at *
              go_wp2_with fail
              exact ⟨⟨q + 1, by go_num, by omega, rfl, by go_grown⟩, by simp [intOf]; omega⟩
            · obtain rfl : q = i0 := by omega
              rw [HIX.out] at d0 d1
              have e0 := kept_cell hXi g0
              have e1 := kept_cell hXi g1
              have ef0 := kept_frozen hXi g0 gf0
              have ef1 := kept_frozen hXi g1 gf1
              go_upto_region 18 with (fail)
              obtain ⟨w4, hw4⟩ : ∃ w4, w4 = wr.alloc (.cells #[.string (S x.key), .string (S x.val)] 68) := ⟨_, rfl⟩
              rw [← hw4]
              have hX4 : Below wr.heap.size wr w4 := by rw [hw4]; go_grown
              have v0 : w4.cell? ⟨wr.heap.size, 0, none⟩ = some (.string (S x.key)) := by rw [hw4, World.cell?_alloc_at _ _ _ _ rfl]; rfl
              have v1 : w4.cell? ⟨wr.heap.size, 1, none⟩ = some (.string (S x.val)) := by rw [hw4, World.cell?_alloc_at _ _ _ _ rfl]; rfl
              replace e0 := kept_cell hX4 e0
              replace e1 := kept_cell hX4 e1
              have hf0 := kept_frozen hX4 (kept_cell hXi g0) ef0
              have hf1 := kept_frozen hX4 (kept_cell hXi g1) ef1
              have hXW := hXi.trans (hX4.mono hzi)
              have HS4 := Lib.hid (HSW.out.on hXW)
              have hB4 := hB.trans (hXW.mono hB.size)
              have hNT4 : NotAt w4 w1.heap.size wo.heap.size := HNT.out.grow (hXW.block _ (by omega))
              have hva0 : va.ownBlock ≠ some wo.heap.size := fun e => by have := (HS.out.sh.own.lt _ e).2; omega
              have hne1 : ¬ wr.heap.size = wo.heap.size := by omega
              clear hw4 hX4 hXi d0 d1 ef0 ef1 h0
              go_upto_region 20 with (fail)
              obtain ⟨w5, hw5⟩ : ∃ w5, w5 = (w4.setCell ⟨wo.heap.size, 0, none⟩ (.string (S x.key))).setCell ⟨wo.heap.size, 1, none⟩ (.string (S x.val)) := ⟨_, rfl⟩
              rw [← hw5]
              have HS5 := Lib.hid (show St w5 w1.heap.size (w1.heap.size + 1) w1.heap.size w.heap.size va L 0 A C from by
                rw [hw5]; exact (HS4.out.put (by omega) hNT4 hva0 _).put (by omega) (hNT4.setCell (by omega) _) hva0 _)
              have hB5 : Below w.heap.size w w5 := by rw [hw5]; exact (hB4.setCell (p := ⟨wo.heap.size, 0, none⟩) (by show w.heap.size ≤ wo.heap.size; omega) _).setCell (p := ⟨wo.heap.size, 1, none⟩) (by show w.heap.size ≤ wo.heap.size; omega) _
              replace g0 : w5.cell? ⟨wo.heap.size, 0, none⟩ = some (.string (S x.key)) := by
                rw [hw5, World.cell?_setCell_other _ _ _ _ (addr_ne (Or.inr (by decide)))]; exact World.cell?_setCell_same _ _ _ e0
              replace g1 : w5.cell? ⟨wo.heap.size, 1, none⟩ = some (.string (S x.val)) := by
                rw [hw5]; exact World.cell?_setCell_same _ _ _ ((World.cell?_setCell_other _ _ _ _ (addr_ne (Or.inr (by decide)))).trans e1)
              clear hw5 e0 e1 v0 v1 hf0 hf1 hXW HS4 hB4 hNT4
              have hpl2 := next_place (fail := 0) (A := A) HC.out.ok
              obtain ⟨g1', g2', g3', g4'⟩ := next_spec (fail := 0) (A := A) HC.out.ok
              have hna := nextS_asks L 0 A C
              have hfa := fillS_asks L 0 A C
              rw [← hna] at hfa
              clear hna
              have hN := next_any _ _ _ _ va L A 0 C w5 HS5.out (by omega) (by omega) (fun x hx => Nat.le_trans (HLK.out x ((nextS_big HLK.out (cur_sub HC.out.ok)).1 x hx)) (by omega))
              generalize nextS L 0 A C = R at *
              obtain ⟨o, err, A', C'⟩ := R
              dsimp only at *
              rcases g4' with ⟨rfl, g5, g6⟩ | ⟨-, -, -, g7⟩
              rotate_left
              · omega
              rw [hrem] at g5
              simp at g5
              subst g5
              dsimp only at hpl2
              have HN := Lib.hid hN
              have HC5 := Lib.hid (show SkAt L C' from ⟨g1', g2'.trans HC.out.high, by rw [hpl2]; simp; have := HLK2.out x hxL; omega⟩)
              have HPL := Lib.hid hpl2
              clear hN g1' g2' g3' g6 hpl2
              go_wp2_with fail
              refine HN.out.mono ?_
              rintro e w6 ⟨rfl, vb, hst, hch, hvb, -⟩
              have hva : va.ownBlock ≠ some wo.heap.size := fun e => by have := (HS.out.sh.own.lt _ e).2; omega
              have k0 := hch.cell g0 (by omega) (by omega) hva
              have k1 := hch.cell g1 (by omega) (by omega) hva
              have hB6 := hch.below hB5 (by omega) (Nat.le_refl _) (fun i e => by have := (HS.out.sh.own.lt i e).1; omega) hB5.size
              have HS6 := Lib.hid hst
              have hkl6 := World.block_lt_of_cell? w6 _ k0
              unfold tellV entO entV
              simp only [Option.isSome]
              clear hst hch hvb HN g0 g1 HS5 hB5
              go_upto_region 21 with (fail)
              have hX6 := Below.refl w6.heap.size w6
              obtain ⟨W7, hW_W7⟩ : ∃ W7, W7 = (w6.alloc (.cells #[.string (S x.key), .string (S x.val)] 55)) := ⟨_, rfl⟩
              rw [← hW_W7]
              have hX_W7 : Below w6.heap.size w6 W7 := by rw [hW_W7]; go_grown
              have u0 : W7.cell? ⟨w6.heap.size, 0, none⟩ = some (.string (S x.key)) := by rw [hW_W7, World.cell?_alloc_at _ _ _ _ (by simp)]; rfl
              have u1 : W7.cell? ⟨w6.heap.size, 1, none⟩ = some (.string (S x.val)) := by rw [hW_W7, World.cell?_alloc_at _ _ _ _ (by simp)]; rfl
              clear hW_W7
              have hz_W7 := hX_W7.size
              replace k0 := kept_cell hX_W7 k0
              replace k1 := kept_cell hX_W7 k1
              replace hB6 := hB6.trans (hX_W7.mono hB6.size)
              replace hX6 := hX6.trans (hX_W7.mono hX6.size)
              clear hX_W7
              have HS7 := Lib.hid (HS6.out.on hX6)
              go_wp2_with fail
              exact ⟨⟨j + 1, A', C', vb, by go_num, by omega, by rw [HPL.out]; exact congrArg Value.string (S_append x.key [0]), HC5, by omega, HS7, hB6⟩, by simp [intOf]; omega⟩
    · obtain rfl : j = m := by omega
      go_wp2_with fail
      go_ret
      exact ⟨rfl, hB⟩

end Go.Proofs.Ythcjcmalfnfjkaa
