/-
  The walk of SeekTells.
-/
import Derived.Test.YthcjcmalfnfjkaaSkx
import Derived.Test.YthcjcmalfnfjkaaSkt
import Derived.Deep.DeepCutAuto
import Derived.BigQuiet
namespace Go.Proofs.Ythcjcmalfnfjkaa
open Go.RowKit
set_option linter.unusedVariables false
attribute [local go_sem ↓] Go.wp_at_zero Go.wp_at_succ

set_option maxRecDepth 100000 in
set_option maxHeartbeats 16000000 in
theorem seekTells_walk (ao : Option Addr) (c : Nat) (l : List Int) (k0 k1 : List UInt8) (chunk : Int) (w : World) (hs : SlAt (fun x : Int => [Value.int .u8 x]) 1 w ao l) (hc : l.length ≤ c) (hx : ∀ x ∈ l, 0 ≤ x ∧ x < 256) (hl : (l.length : Int) ≤ 9223372036854775807) (hck : -9223372036854775808 ≤ chunk ∧ chunk ≤ 9223372036854775807) :
    Calls Try.prog 6 #[.slice ao l.length c, .agg #[.string (S k0), .string (S k1)], .int .i64 chunk] w fun e w' => e = .returned (.bool true) ∧ Below w.heap.size w w' := by
  obtain ⟨i0, hi0, iz0, iz1, iz2⟩ := info_parts infoR
  obtain ⟨hck1, hck2⟩ := hck
  have hmax := fun ts t a b w => run_bmax (P := Try.prog) ts t a b w
  obtain ⟨hLr, hLl, hLk⟩ := made_ok l
  have HSL := Lib.hid hs
  have HX := Lib.hid hx
  have HLR := Lib.hid hLr
  have HLK := Lib.hid hLk
  clear hs hx hLr hLk
  go_enter Try.func6, Try.ntmps6
  go_upto_region 1 with (fail)
  have hB0 := Below.refl w.heap.size w
  obtain ⟨W0, hW_W0⟩ : ∃ W0, W0 = (w.alloc (.cells #[.string (S k0), .string (S k1)] 62)) := ⟨_, rfl⟩
  rw [← hW_W0]
  have hX_W0 : Below w.heap.size w W0 := by rw [hW_W0]; go_grown
  have n0 : W0.cell? ⟨w.heap.size, 0, none⟩ = some (.string (S k0)) := by rw [hW_W0, World.cell?_alloc_at _ _ _ _ (by simp)]; rfl
  have n1 : W0.cell? ⟨w.heap.size, 1, none⟩ = some (.string (S k1)) := by rw [hW_W0, World.cell?_alloc_at _ _ _ _ (by simp)]; rfl
  have hs_W0 : W0.heap.size = w.heap.size + 1 := by rw [hW_W0]; simp
  clear hW_W0
  have hz_W0 := hX_W0.size
  replace hB0 := hB0.trans (hX_W0.mono hB0.size)
  clear hX_W0
  have hz0 : w.heap.size < W0.heap.size := World.block_lt_of_cell? W0 _ n0
  have hWW := hs_W0
  clear hs_W0
  have HMA := Lib.hid (made_any ao c l W0 (HSL.out.kept hB0 (Nat.le_refl _)) hc HX.out hl)
  rw [hWW] at HMA
  generalize madeL l = L at *
  go_wp2_with fail
  refine HMA.out.mono ?_
  rintro e w1 ⟨rfl, hsh, hX1⟩
  have hq1 : w.heap.size + 1 < w1.heap.size := hsh.lt
  have m0 : w1.cell? ⟨w.heap.size, 0, none⟩ = some (.string (S k0)) := (cell_below hX1 (by omega) _).trans n0
  have m1 : w1.cell? ⟨w.heap.size, 1, none⟩ = some (.string (S k1)) := (cell_below hX1 (by omega) _).trans n1
  have hB1 := hB0.trans (hX1.mono (by omega))
  obtain ⟨aL, cL, h0, hr⟩ := hsh.c0
  have HR := Lib.hid hr
  have HSH := Lib.hid hsh
  have hT0 : Hid ((L.take 0).filter (withinE k0 k1) = []) := Lib.hid (by simp)
  clear HMA hX1 hsh hr n0 n1 hB0
  go_wp2_with fail
  go_loopw [36, 8] (fun i v wr => ∃ (j : Nat) (o : List Ent), i = .int .i64 j ∧ j ≤ L.length ∧ Hid (o = (L.take j).filter (withinE k0 k1)) ∧ wr.ownsRow w1.heap.size 68 2 v o.length (cellsE o) ∧ Below w1.heap.size w1 wr) (fun i _ _ => L.length - (intOf i).toNat)
  case atStart => exact ⟨0, [], rfl, Nat.zero_le _, Lib.hid hT0.out.symm, World.ownsRow_nil _ _ _ _, Below.refl _ _⟩
  case round =>
    obtain ⟨j, o, rfl, hj, ho, hown, hX⟩ := hrel
    have hj0 : (0 : Int) ≤ (j : Int) := Int.natCast_nonneg _
    obtain ⟨ov, oc, eo⟩ := own_form hown
    subst eo
    have hol : o.length ≤ 256 := by rw [ho.out]; have := List.length_filter_le (withinE k0 k1) (L.take j); rw [List.length_take] at this; omega
    have hzr := hX.size
    have HO := Lib.hid hown
    have p0 := kept_cell hX m0
    have p1 := kept_cell hX m1
    have hzp : w.heap.size < wr.heap.size := by omega
    clear hown
    by_cases hjl : j < L.length
    · as_aux_lemma =>
        have hj1 : (j : Int) < (L.length : Int) := by omega
        rcases HR.out with hr | ⟨b, off, rfl, hb1, hbq, hcl⟩
        · rw [hr] at hjl; simp at hjl
        have d0 := kept_cell hX (hcl j hjl 0 _ rfl)
        have d1 := kept_cell hX (hcl j hjl 1 _ rfl)
        rw [Nat.add_zero] at d0
        have hbr : b < wr.heap.size := by omega
        have HFT := Lib.hid (filter_take1 (withinE k0 k1) L j hjl)
        rw [← ho.out] at HFT
        clear hcl h0 m0 m1
        generalize L[j] = u at *
        cases hw : withinE k0 k1 u with
        | false =>
          have HN := Lib.hid (show (L.take (j + 1)).filter (withinE k0 k1) = o by rw [HFT.out, if_neg (by rw [hw]; simp)])
          rcases within_no hw with hA1 | ⟨hA1, hA2, hA3⟩
          all_goals
            clear hw HFT
            try (have hA4 : k1.isEmpty = false := by simp [hA2])
            go_wp2_with fail
            exact ⟨⟨j + 1, o, by go_num, by omega, Lib.hid (by rw [HN.out]), own_below HO.out (by go_grown), by go_grown⟩, by simp [intOf]; omega⟩
        | true =>
          obtain ⟨hA1, hA2⟩ := within_yes hw
          have HN := Lib.hid (show (L.take (j + 1)).filter (withinE k0 k1) = o ++ [u] by rw [HFT.out, if_pos hw])
          rcases hA2 with hA2 | ⟨hA2, hA3⟩
          all_goals
            clear hw HFT
            first | (have hA4 : k1.isEmpty = true := List.isEmpty_iff.mpr hA2; clear hA2) | (have hA4 : k1.isEmpty = false := by simp [hA2])
            go_wp2_with (at_builtin; go_must (refine wpList_append_own_at _ rfl (.tmp 57) (.tmp 59) 41 rfl w1.heap.size 68 i0 (.agg #[.string ByteArray.empty, .string ByteArray.empty]) 2 32 Try.underlying41 hi0 iz0 iz1 iz2 rfl (by decide) _ o.length _ rfl ((HO.out.alloc _).alloc _) ⟨wr.heap.size + 1, 0, none⟩ 1 1 [.string (S u.key), .string (S u.val)] rfl rfl (cell_two_at _ _ (by simp) _ _ _) (two_oneCell _ _) (by unfold maxLen; omega) (by omega) (by simp; omega) ?_; intro vz wz hownwz hgrowwz hzz hbz))
            go_wp2_with fail
            exact ⟨⟨j + 1, o ++ [u], by go_num, by omega, Lib.hid (by rw [HN.out]), by rw [cellsE_snoc, List.length_append, List.length_singleton]; exact hownwz, below_grown ((hX.alloc (by omega) _).alloc (by simp; omega) _) hgrowwz (fun k e => (HO.out.lt k e).1) (by simp; omega)⟩, by simp [intOf]; omega⟩
    · obtain rfl : j = L.length := by omega
      have hoe := ho.out
      rw [List.take_length] at hoe
      obtain ⟨R, hRR⟩ : ∃ R, R = o := ⟨_, rfl⟩
      subst hRR
      have HRE := Lib.hid hoe.symm
      obtain ⟨w2, hw2⟩ : ∃ w2, w2 = wr := ⟨_, rfl⟩
      subst hw2
      obtain ⟨rv, hrv⟩ : ∃ rv, rv = ov := ⟨_, rfl⟩
      subst hrv
      obtain ⟨rc, hrc⟩ : ∃ rc, rc = oc := ⟨_, rfl⟩
      subst hrc
      have HS2 := Lib.hid (HSH.out.on hX)
      have hB2 := hB1.trans (hX.mono hB1.size)
      have hrp0 := Lib.hid (fun g (e : (Value.slice rv R.length rc).ownBlock = some g) => HO.out.lt g e)
      clear hX h0 m0 m1 HSH hB1 hoe ho
      by_cases hin : 1 ≤ chunk ∧ chunk ≤ 4096
      · as_aux_lemma =>
          obtain ⟨hin1, hin2⟩ := hin
          obtain ⟨cn, rfl⟩ := Int.eq_ofNat_of_zero_le (by omega : 0 ≤ chunk)
          go_wp2_with fail
          refine (new_ok (w.heap.size + 1) k0 k1 cn w2 (by omega) (by omega)).mono ?_
          rintro e w3 ⟨rfl, rfl⟩
          obtain ⟨w3, hw3⟩ : ∃ w3, w3 = w2.alloc (.cells (curCells (w.heap.size + 1) k0 k1 cn) 105) := ⟨_, rfl⟩
          rw [← hw3]
          have hX3 : Below w2.heap.size w2 w3 := by rw [hw3]; go_grown
          have HS3 := Lib.hid (HS2.out.on hX3)
          have HO3 := Lib.hid (own_below HO.out hX3)
          have hB3 := hB2.trans (hX3.mono hB2.size)
          have hz3 : w1.heap.size ≤ w3.heap.size := Nat.le_trans hzr hX3.size
          have p0 := kept_cell hX3 p0
          have p1 := kept_cell hX3 p1
          have hrp : ∀ g, (Value.slice rv R.length rc).ownBlock = some g → g ≠ w3.heap.size := fun g e => by have := (HO3.out.lt g e).2; omega
          have hrq : ∀ g, (Value.slice rv R.length rc).ownBlock = some g → g ≠ w.heap.size + 1 := fun g e => by have := (HO3.out.lt g e).1; omega
          clear hw3 hX3 HS2 HO hB2
          have hbm : bmax 0 (cn : Int) = ((max 0 (cn : Int)).toNat : Int) := by unfold bmax; split <;> omega
          have hmm : ((max 0 (cn : Int)).toNat : Int) ≤ 9223372036854775807 := by omega
          generalize (max 0 (cn : Int)).toNat = mm at *
          go_upto_region 13 with (fail)
          have hn : (1 : Int) + (mm : Int) % 30 = ((1 + mm % 30 : Nat) : Int) := by omega
          rw [hn]
          have hn1 : 1 ≤ 1 + mm % 30 ∧ 1 + mm % 30 ≤ 30 := by omega
          generalize 1 + mm % 30 = n at *
          clear hn hbm hmm hmax
          go_wp2_with fail
          refine (new_ok (w.heap.size + 1) k0 k1 n w3 hn1.1 (by omega)).mono ?_
          rintro e w4 ⟨rfl, rfl⟩
          obtain ⟨w4, hw4⟩ : ∃ w4, w4 = w3.alloc (.cells (curCells (w.heap.size + 1) k0 k1 n) 105) := ⟨_, rfl⟩
          rw [← hw4]
          have hX4 : Below w3.heap.size w3 w4 := by rw [hw4]; go_grown
          have hS4 := St.fresh HS3.out hz3 (by omega) k0 k1 n
          rw [← hw4] at hS4
          have HO4 := Lib.hid (own_below HO3.out hX4)
          have hB4 := hB3.trans (hX4.mono hB3.size)
          have HS4 := Lib.hid hS4
          have hz4 := hS4.le
          clear hw4 hX4 hS4 HO3 HS3 hB3
          go_wp2_with fail
          refine (thread (wakes22_any w4) w4.heap.size w4 (Below.refl _ _) (Nat.le_refl _)).mono ?_
          rintro e w5 ⟨rfl, hX5, -, -, -, hz5⟩
          have HS5 := Lib.hid (HS4.out.on hX5)
          have HO5 := Lib.hid (own_below HO4.out hX5)
          have hB5 := hB4.trans (hX5.mono hB4.size)
          have HT0 := Lib.hid (te_start (L := L) (R := R) (n := n) (lo := k0) (hi := k1) HLR.out HRE.out hn1.1)
          clear hX5 HS4 HO4 hB4
          go_wp2_with fail
          go_loopw [121] (fun i wr => ∃ (j : Nat) (A : List Int) (C : CurS) (va : Value), i = .int .i64 j ∧ j ≤ R.length ∧ A.length ≤ j ∧ Hid (TeAt L R n j A C) ∧ Hid (St wr w1.heap.size (w3.heap.size + 1) w3.heap.size (w.heap.size + 1) va L 0 A C) ∧ Hid (wr.ownsRow w1.heap.size 68 2 (.slice rv R.length rc) R.length (cellsE R)) ∧ Below w.heap.size w wr ∧ w5.heap.size ≤ wr.heap.size) (fun i _ => R.length - (intOf i).toNat)
          case atStart => exact ⟨0, [], ⟨k0, k1, n, [], false⟩, .slice none 0 0, rfl, by omega, by simp, HT0, HS5, HO5, hB5, Nat.le_refl _⟩
          case round =>
            obtain ⟨j, A, C, va, rfl, hj, hAj, HT, HS, HO, hB, hzr⟩ := hrel
            obtain ⟨wo, hwo⟩ : ∃ wo, wo = wr := ⟨_, rfl⟩
            subst hwo
            have hj0 : (0 : Int) ≤ (j : Int) := Int.natCast_nonneg _
            have hneq := fun a b w => ent_neq_same a b w
            have hgrd := fun op x y xs ys w => ent_guard op x y xs ys w
            clear HS5 HO5 hB5
            by_cases hjl : j < R.length
            · as_aux_lemma =>
                have hj1 : (j : Int) < (R.length : Int) := by omega
                obtain ⟨g, hg, hg1, hg2, hgc⟩ := own_at HO.out (by omega)
                subst hg
                have z0 := hgc _ _ (cellsE_get R j hjl 0 _ rfl)
                have z1 := hgc _ _ (cellsE_get R j hjl 1 _ rfl)
                rw [Nat.add_zero] at z0
                obtain ⟨A', C', hNe, hT', hA'⟩ := next_tells HT.out hjl
                have hN := fun (W : World) (hW : St W w1.heap.size (w3.heap.size + 1) w3.heap.size (w.heap.size + 1) va L 0 A C) => next_any _ _ _ _ va L A 0 C W hW (by omega) (by omega) (fun x hx => Nat.le_trans (HLK.out x ((nextS_big HLK.out (cur_sub HT.out.ok)).1 x hx)) (by omega))
                rw [hNe] at hN
                have HN := Lib.hid hN
                have HT' := Lib.hid hT'
                clear hgc hNe hT' hN
                generalize R[j] = x at *
                go_upto_region 19 with (fail)
                have hX0 := Below.refl wo.heap.size wo
                obtain ⟨W, hW_W⟩ : ∃ W, W = (wo.alloc (.cells #[.string (S x.key), .string (S x.val)] 68)) := ⟨_, rfl⟩
                rw [← hW_W]
                have hX_W : Below wo.heap.size wo W := by rw [hW_W]; go_grown
                have g0 : W.cell? ⟨wo.heap.size, 0, none⟩ = some (.string (S x.key)) := by rw [hW_W, World.cell?_alloc_at _ _ _ _ (by simp)]; rfl
                have g1 : W.cell? ⟨wo.heap.size, 1, none⟩ = some (.string (S x.val)) := by rw [hW_W, World.cell?_alloc_at _ _ _ _ (by simp)]; rfl
                have gf0 : W.frozen? ⟨wo.heap.size, 0, none⟩ = false := by rw [hW_W, World.frozen?_alloc_at _ _ _ _ (by simp)]
                have gf1 : W.frozen? ⟨wo.heap.size, 1, none⟩ = false := by rw [hW_W, World.frozen?_alloc_at _ _ _ _ (by simp)]
                clear hW_W
                have hz_W := hX_W.size
                replace hB := hB.trans (hX_W.mono hB.size)
                replace hX0 := hX0.trans (hX_W.mono hX0.size)
                clear hX_W
                have HSW := Lib.hid (HS.out.on hX0)
                have HOW := Lib.hid (own_below HO.out hX0)
                have hzW : wo.heap.size < W.heap.size := World.block_lt_of_cell? W _ g0
                have hzb := HS.out.le
                go_wp2_with fail
                refine (HN.out W HSW.out).mono ?_
                rintro e w6 ⟨rfl, vb, hst, hch, hvb, -⟩
                have hva : va.ownBlock ≠ some wo.heap.size := fun e => by have := (HS.out.sh.own.lt _ e).2; omega
                have e0 := hch.cell g0 (by omega) (by omega) hva
                have e1 := hch.cell g1 (by omega) (by omega) hva
                have hO6 := own_chg HOW.out (fun g e => hch.block g (HOW.out.lt g e).2 (hrp g e) (hrq g e) (row_apart HOW.out HSW.out.sh.own (by decide) g e))
                have hB6 := hch.below hB (by omega) (by omega) (fun i e => by have := (HSW.out.sh.own.lt i e).1; omega) hB.size
                have HS6 := Lib.hid hst
                have HO6 := Lib.hid hO6
                have hz6 := hch.size
                unfold tellV entO entV
                simp only [Option.isSome]
                clear hst hch hvb HN hO6 z0 z1 g0 g1 HS HO
                go_upto_region 20 with (fail)
                have hX6 := Below.refl w6.heap.size w6
                obtain ⟨W7, hW_W7⟩ : ∃ W7, W7 = (w6.alloc (.cells #[.string (S x.key), .string (S x.val)] 55)) := ⟨_, rfl⟩
                rw [← hW_W7]
                have hX_W7 : Below w6.heap.size w6 W7 := by rw [hW_W7]; go_grown
                have u0 : W7.cell? ⟨w6.heap.size, 0, none⟩ = some (.string (S x.key)) := by rw [hW_W7, World.cell?_alloc_at _ _ _ _ (by simp)]; rfl
                have u1 : W7.cell? ⟨w6.heap.size, 1, none⟩ = some (.string (S x.val)) := by rw [hW_W7, World.cell?_alloc_at _ _ _ _ (by simp)]; rfl
                clear hW_W7
                have hz_W7 := hX_W7.size
                replace e0 := kept_cell hX_W7 e0
                replace e1 := kept_cell hX_W7 e1
                replace hB6 := hB6.trans (hX_W7.mono hB6.size)
                replace hX6 := hX6.trans (hX_W7.mono hX6.size)
                clear hX_W7
                have HS7 := Lib.hid (HS6.out.on hX6)
                have HO7 := Lib.hid (own_below HO6.out hX6)
                have hz7 := hX6.size
                go_wp2_with fail
                exact ⟨⟨j + 1, A', C', vb, by go_num, by omega, by omega, HT', HS7, HO7, hB6, by omega⟩, by simp [intOf]; omega⟩
            · as_aux_lemma =>
                obtain rfl : j = R.length := by omega
                obtain ⟨A1, C1, hN1e, hT1, hA1⟩ := next_done HT.out
                obtain ⟨A2, C2, hN2e, hT2, hA2⟩ := next_done hT1
                have hN1 := fun (W : World) (hW : St W w1.heap.size (w3.heap.size + 1) w3.heap.size (w.heap.size + 1) va L 0 A C) => next_any _ _ _ _ va L A 0 C W hW (by omega) (by omega) (fun x hx => Nat.le_trans (HLK.out x ((nextS_big HLK.out (cur_sub HT.out.ok)).1 x hx)) (by omega))
                rw [hN1e] at hN1
                have hA1l : A1.length ≤ 1000 := by rw [hA1, List.length_replicate]; have := Nat.div_le_self R.length n; omega
                have hN2 := fun (W : World) (va' : Value) (hW : St W w1.heap.size (w3.heap.size + 1) w3.heap.size (w.heap.size + 1) va' L 0 A1 C1) => next_any _ _ _ _ va' L A1 0 C1 W hW (by omega) (by omega) (fun x hx => Nat.le_trans (HLK.out x ((nextS_big HLK.out (cur_sub hT1.ok)).1 x hx)) (by omega))
                rw [hN2e] at hN2
                have hA2l : A2.length = R.length / n + 1 := by rw [hA2, List.length_replicate]
                have hA2c : ∀ i (hi : i < A2.length), A2[i] = (n : Int) := fun i hi => by simp [hA2]
                have HN1 := Lib.hid hN1
                have HN2 := Lib.hid hN2
                have HA2 := Lib.hid hA2c
                clear hN1 hN2 hN1e hN2e hT1 hT2 hA1 hA2 hA2c
                have hdiv : R.length / n ≤ R.length := Nat.div_le_self _ _
                have hzb := HS.out.le
                go_wp2_with fail
                refine (HN1.out wo HS.out).mono ?_
                rintro e w6 ⟨rfl, vb, hst, hch, hvb, -⟩
                have hB6 := hch.below hB (by omega) (by omega) (fun i e => by have := (HS.out.sh.own.lt i e).1; omega) hB.size
                have HS6 := Lib.hid hst
                unfold tellV entO
                simp only [Option.isSome]
                clear hst hch hvb HN1 HS HO
                go_upto_region 24 with (fail)
                have hX6 := Below.refl w6.heap.size w6
                obtain ⟨W7, hW_W7⟩ : ∃ W7, W7 = (w6.alloc (.cells #[.string ⟨#[]⟩, .string ⟨#[]⟩] 55)) := ⟨_, rfl⟩
                rw [← hW_W7]
                have hX_W7 : Below w6.heap.size w6 W7 := by rw [hW_W7]; go_grown
                have u0 : W7.cell? ⟨w6.heap.size, 0, none⟩ = some (.string ⟨#[]⟩) := by rw [hW_W7, World.cell?_alloc_at _ _ _ _ (by simp)]; rfl
                have u1 : W7.cell? ⟨w6.heap.size, 1, none⟩ = some (.string ⟨#[]⟩) := by rw [hW_W7, World.cell?_alloc_at _ _ _ _ (by simp)]; rfl
                clear hW_W7
                have hz_W7 := hX_W7.size
                replace hB6 := hB6.trans (hX_W7.mono hB6.size)
                replace hX6 := hX6.trans (hX_W7.mono hX6.size)
                clear hX_W7
                have HS7 := Lib.hid (HS6.out.on hX6)
                clear hX6 u0 u1
                go_wp2_with fail
                refine (HN2.out W7 _ HS7.out).mono ?_
                rintro e w8 ⟨rfl, vc, hst, hch, hvb, -⟩
                have hB8 := hch.below hB6 (by omega) (by omega) (fun i e => by have := (HS7.out.sh.own.lt i e).1; omega) hB6.size
                have HS8 := Lib.hid hst
                unfold tellV entO
                simp only [Option.isSome]
                clear hst hch hvb HN2 HS6 HS7 hB6
                go_upto_region 25 with (fail)
                have hX8 := Below.refl w8.heap.size w8
                obtain ⟨W9, hW_W9⟩ : ∃ W9, W9 = (w8.alloc (.cells #[.string ⟨#[]⟩, .string ⟨#[]⟩] 55)) := ⟨_, rfl⟩
                rw [← hW_W9]
                have hX_W9 : Below w8.heap.size w8 W9 := by rw [hW_W9]; go_grown
                have u0 : W9.cell? ⟨w8.heap.size, 0, none⟩ = some (.string ⟨#[]⟩) := by rw [hW_W9, World.cell?_alloc_at _ _ _ _ (by simp)]; rfl
                have u1 : W9.cell? ⟨w8.heap.size, 1, none⟩ = some (.string ⟨#[]⟩) := by rw [hW_W9, World.cell?_alloc_at _ _ _ _ (by simp)]; rfl
                clear hW_W9
                have hz_W9 := hX_W9.size
                replace hB8 := hB8.trans (hX_W9.mono hB8.size)
                replace hX8 := hX8.trans (hX_W9.mono hX8.size)
                clear hX_W9
                have HS9 := Lib.hid (HS8.out.on hX8)
                clear hX8 u0 u1
                have hcv := own_form HS9.out.sh.own
                obtain ⟨ga, ca, rfl⟩ := hcv
                have c1 := HS9.out.sh.c1
                have hd1 : ((R.length : Int) / (n : Int) + 1) = ((R.length / n + 1 : Nat) : Int) := by push_cast; rfl
                have hdi : (0 : Int) ≤ (R.length : Int) / (n : Int) ∧ (R.length : Int) / (n : Int) ≤ 1000 := by
                  have : ((R.length / n : Nat) : Int) = (R.length : Int) / (n : Int) := by push_cast; rfl
                  have h3 : ((R.length / n : Nat) : Int) ≤ (R.length : Int) := Int.ofNat_le.mpr hdiv
                  rw [this] at h3
                  exact ⟨Int.ediv_nonneg (by omega) (by omega), by omega⟩
                have HD1 := Lib.hid hd1
                clear hd1
                go_wp2_with fail
                refine WQ.region (C := fun w' => Below W9.heap.size W9 w') (by kernel_rfl) (by kernel_rfl) (below_drew' (Below.refl _ _)) ?_
                refine WQ.want (by rfl) (fun K hK => ?_)
                refine ⟨.bool false, fun w' hw' => ?_, hK _ ?_⟩
                · have hq' := hw'
                  go_simp
                clear hK K
                (try simp only [Act.put, List.setIfInBounds_toArray, List.set_cons_zero, List.set_cons_succ])
                refine WQ.want (by rfl) (fun K hK => ?_)
                refine ⟨.bool false, fun w' hw' => ?_, hK _ ?_⟩
                · have hq' := hw'
                  go_simp
                clear hK K
                (try simp only [Act.put, List.setIfInBounds_toArray, List.set_cons_zero, List.set_cons_succ])
                refine WQ.want (by rfl) (fun K hK => ?_)
                refine ⟨.bool false, fun w' hw' => ?_, hK _ ?_⟩
                · have hq' := hw'
                  go_simp
                clear hK K
                (try simp only [Act.put, List.setIfInBounds_toArray, List.set_cons_zero, List.set_cons_succ])
                refine WQ.want (by rfl) (fun K hK => ?_)
                refine ⟨.bool false, fun w' hw' => ?_, hK _ ?_⟩
                · have hq' := hw'
                  go_simp
                clear hK K
                (try simp only [Act.put, List.setIfInBounds_toArray, List.set_cons_zero, List.set_cons_succ])
                refine WQ.want (by rfl) (fun K hK => ?_)
                refine ⟨.bool false, fun w' hw' => ?_, hK _ ?_⟩
                · have hq' := hw'
                  go_simp
                clear hK K
                (try simp only [Act.put, List.setIfInBounds_toArray, List.set_cons_zero, List.set_cons_succ])
                refine WQ.want (by rfl) (fun K hK => ?_)
                refine ⟨.int .i64 0, fun w' hw' => ?_, hK _ ?_⟩
                · have hq' := hw'
                  go_simp
                clear hK K
                (try simp only [Act.put, List.setIfInBounds_toArray, List.set_cons_zero, List.set_cons_succ])
                refine WQ.want (by rfl) (fun K hK => ?_)
                refine ⟨.bool false, fun w' hw' => ?_, hK _ ?_⟩
                · have hq' := hw'
                  go_simp
                clear hK K
                (try simp only [Act.put, List.setIfInBounds_toArray, List.set_cons_zero, List.set_cons_succ])
                refine WQ.want (by rfl) (fun K hK => ?_)
                refine ⟨.bool false, fun w' hw' => ?_, hK _ ?_⟩
                · have hq' := hw'
                  go_simp
                clear hK K
                (try simp only [Act.put, List.setIfInBounds_toArray, List.set_cons_zero, List.set_cons_succ])
                refine WQ.want (by rfl) (fun K hK => ?_)
                refine ⟨.bool false, fun w' hw' => ?_, hK _ ?_⟩
                · have hq' := hw'
                  go_simp
                clear hK K
                (try simp only [Act.put, List.setIfInBounds_toArray, List.set_cons_zero, List.set_cons_succ])
                refine WQ.want (by rfl) (fun K hK => ?_)
                refine ⟨.int .i64 0, fun w' hw' => ?_, hK _ ?_⟩
                · have hq' := hw'
                  go_simp
                clear hK K
                (try simp only [Act.put, List.setIfInBounds_toArray, List.set_cons_zero, List.set_cons_succ])
                refine WQ.want (by rfl) (fun K hK => ?_)
                refine ⟨.bool false, fun w' hw' => ?_, hK _ ?_⟩
                · have hq' := hw'
                  go_simp
                clear hK K
                (try simp only [Act.put, List.setIfInBounds_toArray, List.set_cons_zero, List.set_cons_succ])
                refine WQ.want (by rfl) (fun K hK => ?_)
                refine ⟨.bool false, fun w' hw' => ?_, hK _ ?_⟩
                · have hq' := hw'
                  go_simp
                clear hK K
                (try simp only [Act.put, List.setIfInBounds_toArray, List.set_cons_zero, List.set_cons_succ])
                refine WQ.want (by rfl) (fun K hK => ?_)
                refine ⟨.bool false, fun w' hw' => ?_, hK _ ?_⟩
                · have hq' := hw'
                  go_simp
                clear hK K
                (try simp only [Act.put, List.setIfInBounds_toArray, List.set_cons_zero, List.set_cons_succ])
                refine WQ.want (by rfl) (fun K hK => ?_)
                refine ⟨.pointer (some ⟨w.heap.size + 1, 0, none⟩), fun w' hw' => ?_, hK _ ?_⟩
                · have hq' := hw'
                  go_simp
                clear hK K
                (try simp only [Act.put, List.setIfInBounds_toArray, List.set_cons_zero, List.set_cons_succ])
                refine WQ.want (by rfl) (fun K hK => ?_)
                refine ⟨.pointer (some ⟨w.heap.size + 1, 0, none⟩), fun w' hw' => ?_, hK _ ?_⟩
                · have hq' := hw'
                  go_simp
                clear hK K
                (try simp only [Act.put, List.setIfInBounds_toArray, List.set_cons_zero, List.set_cons_succ])
                refine WQ.want (by rfl) (fun K hK => ?_)
                refine ⟨.pointer (some ⟨w.heap.size + 1, 1, none⟩), fun w' hw' => ?_, hK _ ?_⟩
                · have hq' := hw'
                  go_simp
                clear hK K
                (try simp only [Act.put, List.setIfInBounds_toArray, List.set_cons_zero, List.set_cons_succ])
                refine WQ.want (by rfl) (fun K hK => ?_)
                refine ⟨.slice ga A2.length ca, fun w' hw' => ?_, hK _ ?_⟩
                · have hq' := hw'
                  have z0 := kept_cell hw' c1; go_simp
                clear hK K
                (try simp only [Act.put, List.setIfInBounds_toArray, List.set_cons_zero, List.set_cons_succ])
                refine WQ.want (by rfl) (fun K hK => ?_)
                refine ⟨.int .i64 A2.length, fun w' hw' => ?_, hK _ ?_⟩
                · have hq' := hw'
                  go_simp
                clear hK K
                (try simp only [Act.put, List.setIfInBounds_toArray, List.set_cons_zero, List.set_cons_succ])
                refine WQ.want (by rfl) (fun K hK => ?_)
                refine ⟨.slice rv R.length rc, fun w' hw' => ?_, hK _ ?_⟩
                · have hq' := hw'
                  go_simp
                clear hK K
                (try simp only [Act.put, List.setIfInBounds_toArray, List.set_cons_zero, List.set_cons_succ])
                refine WQ.want (by rfl) (fun K hK => ?_)
                refine ⟨.int .i64 R.length, fun w' hw' => ?_, hK _ ?_⟩
                · have hq' := hw'
                  go_simp
                clear hK K
                (try simp only [Act.put, List.setIfInBounds_toArray, List.set_cons_zero, List.set_cons_succ])
                refine WQ.want (by rfl) (fun K hK => ?_)
                refine ⟨.int .i64 n, fun w' hw' => ?_, hK _ ?_⟩
                · have hq' := hw'
                  go_simp
                clear hK K
                (try simp only [Act.put, List.setIfInBounds_toArray, List.set_cons_zero, List.set_cons_succ])
                refine WQ.want (by rfl) (fun K hK => ?_)
                refine ⟨.int .i64 ((R.length : Int) / (n : Int)), fun w' hw' => ?_, hK _ ?_⟩
                · have hq' := hw'
                  have z0 := kept_cell hw' c1; have hw := IntWalk.i64_in ((R.length : Int) / (n : Int)) (by omega); have hn0 : ¬ n = 0 := (by omega); go_simp
                clear hK K
                (try simp only [Act.put, List.setIfInBounds_toArray, List.set_cons_zero, List.set_cons_succ])
                refine WQ.want (by rfl) (fun K hK => ?_)
                refine ⟨.int .i64 ((R.length : Int) / (n : Int) + 1), fun w' hw' => ?_, hK _ ?_⟩
                · have hq' := hw'
                  have z0 := kept_cell hw' c1; (have hw := IntWalk.i64_in ((R.length : Int) / (n : Int) + 1) (by omega)); go_simp
                clear hK K
                (try simp only [Act.put, List.setIfInBounds_toArray, List.set_cons_zero, List.set_cons_succ])
                refine WQ.want (by rfl) (fun K hK => ?_)
                refine ⟨.bool false, fun w' hw' => ?_, hK _ ?_⟩
                · have hq' := hw'
                  have z0 := kept_cell hw' c1; go_simp
                clear hK K
                (try simp only [Act.put, List.setIfInBounds_toArray, List.set_cons_zero, List.set_cons_succ])
                refine WQ.want (by rfl) (fun K hK => ?_)
                refine ⟨.bool false, fun w' hw' => ?_, hK _ ?_⟩
                · have hq' := hw'
                  go_simp
                clear hK K
                (try simp only [Act.put, List.setIfInBounds_toArray, List.set_cons_zero, List.set_cons_succ])
                refine WQ.done ?_
                rintro w10 hX10
                have HS10 := Lib.hid (HS9.out.on hX10)
                replace c1 := kept_cell hX10 c1
                replace hB8 := hB8.trans (hX10.mono hB8.size)
                clear hX10
                go_wp2_with fail
                go_loopw [185] (fun i wr => ∃ (q : Nat), i = .int .i64 q ∧ q ≤ A2.length ∧ Below w10.heap.size w10 wr) (fun i _ => A2.length - (intOf i).toNat)
                case atStart => exact ⟨0, rfl, by omega, Below.refl _ _⟩
                case round =>
                  obtain ⟨q, rfl, hq, hXi⟩ := hrel
                  have hq0 : (0 : Int) ≤ (q : Int) := Int.natCast_nonneg _
                  by_cases hql : q < A2.length
                  · have hq1 : (q : Int) < (A2.length : Int) := by omega
                    obtain ⟨g, hg, hg1, hg2, hgc⟩ := own_at HS10.out.sh.own (by omega)
                    subst hg
                    have a0 := kept_cell hXi (hgc q (.int .i64 n) (by unfold intsV; rw [List.getElem?_map, List.getElem?_eq_getElem hql, HA2.out q hql]; rfl))
                    clear hgc
                    go_wp2_with fail
                    exact ⟨⟨q + 1, by go_num, by omega, hXi⟩, by simp [intOf]; omega⟩
                  · obtain rfl : q = A2.length := by omega
                    go_wp2_with fail
                    go_ret
                    exact ⟨rfl, hB8.trans (hXi.mono hB8.size)⟩
      · have hzr2 := hzr
        have hrp : ∀ g, (Value.slice rv R.length rc).ownBlock = some g → g ≠ w2.heap.size := fun g e => by have := (HO.out.lt g e).2; omega
        have hrq : ∀ g, (Value.slice rv R.length rc).ownBlock = some g → g ≠ w.heap.size + 1 := fun g e => by have := (HO.out.lt g e).1; omega
        rcases (by omega : chunk < 1 ∨ (1 ≤ chunk ∧ 4096 < chunk)) with hin1 | ⟨hin1, hin2⟩
        · as_aux_lemma =>
            clear hin
            go_wp2_with fail
            refine (new_arg (w.heap.size + 1) (S k0) (S k1) chunk w2 (by omega)).mono ?_
            rintro e w' ⟨rfl, rfl⟩
            have hbm : bmax 0 chunk = ((max 0 chunk).toNat : Int) := by unfold bmax; split <;> omega
            have hmm : ((max 0 chunk).toNat : Int) ≤ 9223372036854775807 := by omega
            generalize (max 0 chunk).toNat = mm at *
            go_upto_region 13 with (fail)
            have hn : (1 : Int) + (mm : Int) % 30 = ((1 + mm % 30 : Nat) : Int) := by omega
            rw [hn]
            have hn1 : 1 ≤ 1 + mm % 30 ∧ 1 + mm % 30 ≤ 30 := by omega
            generalize 1 + mm % 30 = n at *
            clear hn hbm hmm hmax
            go_wp2_with fail
            refine (new_ok (w.heap.size + 1) k0 k1 n w2 hn1.1 (by omega)).mono ?_
            rintro e w4 ⟨rfl, rfl⟩
            obtain ⟨w4, hw4⟩ : ∃ w4, w4 = w2.alloc (.cells (curCells (w.heap.size + 1) k0 k1 n) 105) := ⟨_, rfl⟩
            rw [← hw4]
            have hX4 : Below w2.heap.size w2 w4 := by rw [hw4]; go_grown
            have hS4 := St.fresh HS2.out hzr2 (by omega) k0 k1 n
            rw [← hw4] at hS4
            have HO4 := Lib.hid (own_below HO.out hX4)
            have hB4 := hB2.trans (hX4.mono hB2.size)
            have HS4 := Lib.hid hS4
            have hz4 := hS4.le
            clear hw4 hX4 hS4 HO HS2 hB2
            go_wp2_with fail
            refine (thread (wakes22_any w4) w4.heap.size w4 (Below.refl _ _) (Nat.le_refl _)).mono ?_
            rintro e w5 ⟨rfl, hX5, -, -, -, hz5⟩
            have HS5 := Lib.hid (HS4.out.on hX5)
            have HO5 := Lib.hid (own_below HO4.out hX5)
            have hB5 := hB4.trans (hX5.mono hB4.size)
            have HT0 := Lib.hid (te_start (L := L) (R := R) (n := n) (lo := k0) (hi := k1) HLR.out HRE.out hn1.1)
            clear hX5 HS4 HO4 hB4
            go_wp2_with fail
            go_loopw [121] (fun i wr => ∃ (j : Nat) (A : List Int) (C : CurS) (va : Value), i = .int .i64 j ∧ j ≤ R.length ∧ A.length ≤ j ∧ Hid (TeAt L R n j A C) ∧ Hid (St wr w1.heap.size (w2.heap.size + 1) w2.heap.size (w.heap.size + 1) va L 0 A C) ∧ Hid (wr.ownsRow w1.heap.size 68 2 (.slice rv R.length rc) R.length (cellsE R)) ∧ Below w.heap.size w wr ∧ w5.heap.size ≤ wr.heap.size) (fun i _ => R.length - (intOf i).toNat)
            case atStart => exact ⟨0, [], ⟨k0, k1, n, [], false⟩, .slice none 0 0, rfl, by omega, by simp, HT0, HS5, HO5, hB5, Nat.le_refl _⟩
            case round =>
              obtain ⟨j, A, C, va, rfl, hj, hAj, HT, HS, HO, hB, hzr⟩ := hrel
              obtain ⟨wo, hwo⟩ : ∃ wo, wo = wr := ⟨_, rfl⟩
              subst hwo
              have hj0 : (0 : Int) ≤ (j : Int) := Int.natCast_nonneg _
              have hneq := fun a b w => ent_neq_same a b w
              have hgrd := fun op x y xs ys w => ent_guard op x y xs ys w
              clear HS5 HO5 hB5
              by_cases hjl : j < R.length
              · as_aux_lemma =>
                  have hj1 : (j : Int) < (R.length : Int) := by omega
                  obtain ⟨g, hg, hg1, hg2, hgc⟩ := own_at HO.out (by omega)
                  subst hg
                  have z0 := hgc _ _ (cellsE_get R j hjl 0 _ rfl)
                  have z1 := hgc _ _ (cellsE_get R j hjl 1 _ rfl)
                  rw [Nat.add_zero] at z0
                  obtain ⟨A', C', hNe, hT', hA'⟩ := next_tells HT.out hjl
                  have hN := fun (W : World) (hW : St W w1.heap.size (w2.heap.size + 1) w2.heap.size (w.heap.size + 1) va L 0 A C) => next_any _ _ _ _ va L A 0 C W hW (by omega) (by omega) (fun x hx => Nat.le_trans (HLK.out x ((nextS_big HLK.out (cur_sub HT.out.ok)).1 x hx)) (by omega))
                  rw [hNe] at hN
                  have HN := Lib.hid hN
                  have HT' := Lib.hid hT'
                  clear hgc hNe hT' hN
                  generalize R[j] = x at *
                  go_upto_region 19 with (fail)
                  have hX0 := Below.refl wo.heap.size wo
                  obtain ⟨W, hW_W⟩ : ∃ W, W = (wo.alloc (.cells #[.string (S x.key), .string (S x.val)] 68)) := ⟨_, rfl⟩
                  rw [← hW_W]
                  have hX_W : Below wo.heap.size wo W := by rw [hW_W]; go_grown
                  have g0 : W.cell? ⟨wo.heap.size, 0, none⟩ = some (.string (S x.key)) := by rw [hW_W, World.cell?_alloc_at _ _ _ _ (by simp)]; rfl
                  have g1 : W.cell? ⟨wo.heap.size, 1, none⟩ = some (.string (S x.val)) := by rw [hW_W, World.cell?_alloc_at _ _ _ _ (by simp)]; rfl
                  have gf0 : W.frozen? ⟨wo.heap.size, 0, none⟩ = false := by rw [hW_W, World.frozen?_alloc_at _ _ _ _ (by simp)]
                  have gf1 : W.frozen? ⟨wo.heap.size, 1, none⟩ = false := by rw [hW_W, World.frozen?_alloc_at _ _ _ _ (by simp)]
                  clear hW_W
                  have hz_W := hX_W.size
                  replace hB := hB.trans (hX_W.mono hB.size)
                  replace hX0 := hX0.trans (hX_W.mono hX0.size)
                  clear hX_W
                  have HSW := Lib.hid (HS.out.on hX0)
                  have HOW := Lib.hid (own_below HO.out hX0)
                  have hzW : wo.heap.size < W.heap.size := World.block_lt_of_cell? W _ g0
                  have hzb := HS.out.le
                  go_wp2_with fail
                  refine (HN.out W HSW.out).mono ?_
                  rintro e w6 ⟨rfl, vb, hst, hch, hvb, -⟩
                  have hva : va.ownBlock ≠ some wo.heap.size := fun e => by have := (HS.out.sh.own.lt _ e).2; omega
                  have e0 := hch.cell g0 (by omega) (by omega) hva
                  have e1 := hch.cell g1 (by omega) (by omega) hva
                  have hO6 := own_chg HOW.out (fun g e => hch.block g (HOW.out.lt g e).2 (hrp g e) (hrq g e) (row_apart HOW.out HSW.out.sh.own (by decide) g e))
                  have hB6 := hch.below hB (by omega) (by omega) (fun i e => by have := (HSW.out.sh.own.lt i e).1; omega) hB.size
                  have HS6 := Lib.hid hst
                  have HO6 := Lib.hid hO6
                  have hz6 := hch.size
                  unfold tellV entO entV
                  simp only [Option.isSome]
                  clear hst hch hvb HN hO6 z0 z1 g0 g1 HS HO
                  go_upto_region 20 with (fail)
                  have hX6 := Below.refl w6.heap.size w6
                  obtain ⟨W7, hW_W7⟩ : ∃ W7, W7 = (w6.alloc (.cells #[.string (S x.key), .string (S x.val)] 55)) := ⟨_, rfl⟩
                  rw [← hW_W7]
                  have hX_W7 : Below w6.heap.size w6 W7 := by rw [hW_W7]; go_grown
                  have u0 : W7.cell? ⟨w6.heap.size, 0, none⟩ = some (.string (S x.key)) := by rw [hW_W7, World.cell?_alloc_at _ _ _ _ (by simp)]; rfl
                  have u1 : W7.cell? ⟨w6.heap.size, 1, none⟩ = some (.string (S x.val)) := by rw [hW_W7, World.cell?_alloc_at _ _ _ _ (by simp)]; rfl
                  clear hW_W7
                  have hz_W7 := hX_W7.size
                  replace e0 := kept_cell hX_W7 e0
                  replace e1 := kept_cell hX_W7 e1
                  replace hB6 := hB6.trans (hX_W7.mono hB6.size)
                  replace hX6 := hX6.trans (hX_W7.mono hX6.size)
                  clear hX_W7
                  have HS7 := Lib.hid (HS6.out.on hX6)
                  have HO7 := Lib.hid (own_below HO6.out hX6)
                  have hz7 := hX6.size
                  go_wp2_with fail
                  exact ⟨⟨j + 1, A', C', vb, by go_num, by omega, by omega, HT', HS7, HO7, hB6, by omega⟩, by simp [intOf]; omega⟩
              · as_aux_lemma =>
                  obtain rfl : j = R.length := by omega
                  obtain ⟨A1, C1, hN1e, hT1, hA1⟩ := next_done HT.out
                  obtain ⟨A2, C2, hN2e, hT2, hA2⟩ := next_done hT1
                  have hN1 := fun (W : World) (hW : St W w1.heap.size (w2.heap.size + 1) w2.heap.size (w.heap.size + 1) va L 0 A C) => next_any _ _ _ _ va L A 0 C W hW (by omega) (by omega) (fun x hx => Nat.le_trans (HLK.out x ((nextS_big HLK.out (cur_sub HT.out.ok)).1 x hx)) (by omega))
                  rw [hN1e] at hN1
                  have hA1l : A1.length ≤ 1000 := by rw [hA1, List.length_replicate]; have := Nat.div_le_self R.length n; omega
                  have hN2 := fun (W : World) (va' : Value) (hW : St W w1.heap.size (w2.heap.size + 1) w2.heap.size (w.heap.size + 1) va' L 0 A1 C1) => next_any _ _ _ _ va' L A1 0 C1 W hW (by omega) (by omega) (fun x hx => Nat.le_trans (HLK.out x ((nextS_big HLK.out (cur_sub hT1.ok)).1 x hx)) (by omega))
                  rw [hN2e] at hN2
                  have hA2l : A2.length = R.length / n + 1 := by rw [hA2, List.length_replicate]
                  have hA2c : ∀ i (hi : i < A2.length), A2[i] = (n : Int) := fun i hi => by simp [hA2]
                  have HN1 := Lib.hid hN1
                  have HN2 := Lib.hid hN2
                  have HA2 := Lib.hid hA2c
                  clear hN1 hN2 hN1e hN2e hT1 hT2 hA1 hA2 hA2c
                  have hdiv : R.length / n ≤ R.length := Nat.div_le_self _ _
                  have hzb := HS.out.le
                  go_wp2_with fail
                  refine (HN1.out wo HS.out).mono ?_
                  rintro e w6 ⟨rfl, vb, hst, hch, hvb, -⟩
                  have hB6 := hch.below hB (by omega) (by omega) (fun i e => by have := (HS.out.sh.own.lt i e).1; omega) hB.size
                  have HS6 := Lib.hid hst
                  unfold tellV entO
                  simp only [Option.isSome]
                  clear hst hch hvb HN1 HS HO
                  go_upto_region 24 with (fail)
                  have hX6 := Below.refl w6.heap.size w6
                  obtain ⟨W7, hW_W7⟩ : ∃ W7, W7 = (w6.alloc (.cells #[.string ⟨#[]⟩, .string ⟨#[]⟩] 55)) := ⟨_, rfl⟩
                  rw [← hW_W7]
                  have hX_W7 : Below w6.heap.size w6 W7 := by rw [hW_W7]; go_grown
                  have u0 : W7.cell? ⟨w6.heap.size, 0, none⟩ = some (.string ⟨#[]⟩) := by rw [hW_W7, World.cell?_alloc_at _ _ _ _ (by simp)]; rfl
                  have u1 : W7.cell? ⟨w6.heap.size, 1, none⟩ = some (.string ⟨#[]⟩) := by rw [hW_W7, World.cell?_alloc_at _ _ _ _ (by simp)]; rfl
                  clear hW_W7
                  have hz_W7 := hX_W7.size
                  replace hB6 := hB6.trans (hX_W7.mono hB6.size)
                  replace hX6 := hX6.trans (hX_W7.mono hX6.size)
                  clear hX_W7
                  have HS7 := Lib.hid (HS6.out.on hX6)
                  clear hX6 u0 u1
                  go_wp2_with fail
                  refine (HN2.out W7 _ HS7.out).mono ?_
                  rintro e w8 ⟨rfl, vc, hst, hch, hvb, -⟩
                  have hB8 := hch.below hB6 (by omega) (by omega) (fun i e => by have := (HS7.out.sh.own.lt i e).1; omega) hB6.size
                  have HS8 := Lib.hid hst
                  unfold tellV entO
                  simp only [Option.isSome]
                  clear hst hch hvb HN2 HS6 HS7 hB6
                  go_upto_region 25 with (fail)
                  have hX8 := Below.refl w8.heap.size w8
                  obtain ⟨W9, hW_W9⟩ : ∃ W9, W9 = (w8.alloc (.cells #[.string ⟨#[]⟩, .string ⟨#[]⟩] 55)) := ⟨_, rfl⟩
                  rw [← hW_W9]
                  have hX_W9 : Below w8.heap.size w8 W9 := by rw [hW_W9]; go_grown
                  have u0 : W9.cell? ⟨w8.heap.size, 0, none⟩ = some (.string ⟨#[]⟩) := by rw [hW_W9, World.cell?_alloc_at _ _ _ _ (by simp)]; rfl
                  have u1 : W9.cell? ⟨w8.heap.size, 1, none⟩ = some (.string ⟨#[]⟩) := by rw [hW_W9, World.cell?_alloc_at _ _ _ _ (by simp)]; rfl
                  clear hW_W9
                  have hz_W9 := hX_W9.size
                  replace hB8 := hB8.trans (hX_W9.mono hB8.size)
                  replace hX8 := hX8.trans (hX_W9.mono hX8.size)
                  clear hX_W9
                  have HS9 := Lib.hid (HS8.out.on hX8)
                  clear hX8 u0 u1
                  have hcv := own_form HS9.out.sh.own
                  obtain ⟨ga, ca, rfl⟩ := hcv
                  have c1 := HS9.out.sh.c1
                  have hd1 : ((R.length : Int) / (n : Int) + 1) = ((R.length / n + 1 : Nat) : Int) := by push_cast; rfl
                  have hdi : (0 : Int) ≤ (R.length : Int) / (n : Int) ∧ (R.length : Int) / (n : Int) ≤ 1000 := by
                    have : ((R.length / n : Nat) : Int) = (R.length : Int) / (n : Int) := by push_cast; rfl
                    have h3 : ((R.length / n : Nat) : Int) ≤ (R.length : Int) := Int.ofNat_le.mpr hdiv
                    rw [this] at h3
                    exact ⟨Int.ediv_nonneg (by omega) (by omega), by omega⟩
                  have HD1 := Lib.hid hd1
                  clear hd1
                  go_wp2_with fail
                  refine WQ.region (C := fun w' => Below W9.heap.size W9 w') (by kernel_rfl) (by kernel_rfl) (below_drew' (Below.refl _ _)) ?_
                  refine WQ.want (by rfl) (fun K hK => ?_)
                  refine ⟨.bool false, fun w' hw' => ?_, hK _ ?_⟩
                  · have hq' := hw'
                    go_simp
                  clear hK K
                  (try simp only [Act.put, List.setIfInBounds_toArray, List.set_cons_zero, List.set_cons_succ])
                  refine WQ.want (by rfl) (fun K hK => ?_)
                  refine ⟨.bool false, fun w' hw' => ?_, hK _ ?_⟩
                  · have hq' := hw'
                    go_simp
                  clear hK K
                  (try simp only [Act.put, List.setIfInBounds_toArray, List.set_cons_zero, List.set_cons_succ])
                  refine WQ.want (by rfl) (fun K hK => ?_)
                  refine ⟨.bool false, fun w' hw' => ?_, hK _ ?_⟩
                  · have hq' := hw'
                    go_simp
                  clear hK K
                  (try simp only [Act.put, List.setIfInBounds_toArray, List.set_cons_zero, List.set_cons_succ])
                  refine WQ.want (by rfl) (fun K hK => ?_)
                  refine ⟨.bool false, fun w' hw' => ?_, hK _ ?_⟩
                  · have hq' := hw'
                    go_simp
                  clear hK K
                  (try simp only [Act.put, List.setIfInBounds_toArray, List.set_cons_zero, List.set_cons_succ])
                  refine WQ.want (by rfl) (fun K hK => ?_)
                  refine ⟨.bool false, fun w' hw' => ?_, hK _ ?_⟩
                  · have hq' := hw'
                    go_simp
                  clear hK K
                  (try simp only [Act.put, List.setIfInBounds_toArray, List.set_cons_zero, List.set_cons_succ])
                  refine WQ.want (by rfl) (fun K hK => ?_)
                  refine ⟨.int .i64 0, fun w' hw' => ?_, hK _ ?_⟩
                  · have hq' := hw'
                    go_simp
                  clear hK K
                  (try simp only [Act.put, List.setIfInBounds_toArray, List.set_cons_zero, List.set_cons_succ])
                  refine WQ.want (by rfl) (fun K hK => ?_)
                  refine ⟨.bool false, fun w' hw' => ?_, hK _ ?_⟩
                  · have hq' := hw'
                    go_simp
                  clear hK K
                  (try simp only [Act.put, List.setIfInBounds_toArray, List.set_cons_zero, List.set_cons_succ])
                  refine WQ.want (by rfl) (fun K hK => ?_)
                  refine ⟨.bool false, fun w' hw' => ?_, hK _ ?_⟩
                  · have hq' := hw'
                    go_simp
                  clear hK K
                  (try simp only [Act.put, List.setIfInBounds_toArray, List.set_cons_zero, List.set_cons_succ])
                  refine WQ.want (by rfl) (fun K hK => ?_)
                  refine ⟨.bool false, fun w' hw' => ?_, hK _ ?_⟩
                  · have hq' := hw'
                    go_simp
                  clear hK K
                  (try simp only [Act.put, List.setIfInBounds_toArray, List.set_cons_zero, List.set_cons_succ])
                  refine WQ.want (by rfl) (fun K hK => ?_)
                  refine ⟨.int .i64 0, fun w' hw' => ?_, hK _ ?_⟩
                  · have hq' := hw'
                    go_simp
                  clear hK K
                  (try simp only [Act.put, List.setIfInBounds_toArray, List.set_cons_zero, List.set_cons_succ])
                  refine WQ.want (by rfl) (fun K hK => ?_)
                  refine ⟨.bool false, fun w' hw' => ?_, hK _ ?_⟩
                  · have hq' := hw'
                    go_simp
                  clear hK K
                  (try simp only [Act.put, List.setIfInBounds_toArray, List.set_cons_zero, List.set_cons_succ])
                  refine WQ.want (by rfl) (fun K hK => ?_)
                  refine ⟨.bool false, fun w' hw' => ?_, hK _ ?_⟩
                  · have hq' := hw'
                    go_simp
                  clear hK K
                  (try simp only [Act.put, List.setIfInBounds_toArray, List.set_cons_zero, List.set_cons_succ])
                  refine WQ.want (by rfl) (fun K hK => ?_)
                  refine ⟨.bool false, fun w' hw' => ?_, hK _ ?_⟩
                  · have hq' := hw'
                    go_simp
                  clear hK K
                  (try simp only [Act.put, List.setIfInBounds_toArray, List.set_cons_zero, List.set_cons_succ])
                  refine WQ.want (by rfl) (fun K hK => ?_)
                  refine ⟨.pointer (some ⟨w.heap.size + 1, 0, none⟩), fun w' hw' => ?_, hK _ ?_⟩
                  · have hq' := hw'
                    go_simp
                  clear hK K
                  (try simp only [Act.put, List.setIfInBounds_toArray, List.set_cons_zero, List.set_cons_succ])
                  refine WQ.want (by rfl) (fun K hK => ?_)
                  refine ⟨.pointer (some ⟨w.heap.size + 1, 0, none⟩), fun w' hw' => ?_, hK _ ?_⟩
                  · have hq' := hw'
                    go_simp
                  clear hK K
                  (try simp only [Act.put, List.setIfInBounds_toArray, List.set_cons_zero, List.set_cons_succ])
                  refine WQ.want (by rfl) (fun K hK => ?_)
                  refine ⟨.pointer (some ⟨w.heap.size + 1, 1, none⟩), fun w' hw' => ?_, hK _ ?_⟩
                  · have hq' := hw'
                    go_simp
                  clear hK K
                  (try simp only [Act.put, List.setIfInBounds_toArray, List.set_cons_zero, List.set_cons_succ])
                  refine WQ.want (by rfl) (fun K hK => ?_)
                  refine ⟨.slice ga A2.length ca, fun w' hw' => ?_, hK _ ?_⟩
                  · have hq' := hw'
                    have z0 := kept_cell hw' c1; go_simp
                  clear hK K
                  (try simp only [Act.put, List.setIfInBounds_toArray, List.set_cons_zero, List.set_cons_succ])
                  refine WQ.want (by rfl) (fun K hK => ?_)
                  refine ⟨.int .i64 A2.length, fun w' hw' => ?_, hK _ ?_⟩
                  · have hq' := hw'
                    go_simp
                  clear hK K
                  (try simp only [Act.put, List.setIfInBounds_toArray, List.set_cons_zero, List.set_cons_succ])
                  refine WQ.want (by rfl) (fun K hK => ?_)
                  refine ⟨.slice rv R.length rc, fun w' hw' => ?_, hK _ ?_⟩
                  · have hq' := hw'
                    go_simp
                  clear hK K
                  (try simp only [Act.put, List.setIfInBounds_toArray, List.set_cons_zero, List.set_cons_succ])
                  refine WQ.want (by rfl) (fun K hK => ?_)
                  refine ⟨.int .i64 R.length, fun w' hw' => ?_, hK _ ?_⟩
                  · have hq' := hw'
                    go_simp
                  clear hK K
                  (try simp only [Act.put, List.setIfInBounds_toArray, List.set_cons_zero, List.set_cons_succ])
                  refine WQ.want (by rfl) (fun K hK => ?_)
                  refine ⟨.int .i64 n, fun w' hw' => ?_, hK _ ?_⟩
                  · have hq' := hw'
                    go_simp
                  clear hK K
                  (try simp only [Act.put, List.setIfInBounds_toArray, List.set_cons_zero, List.set_cons_succ])
                  refine WQ.want (by rfl) (fun K hK => ?_)
                  refine ⟨.int .i64 ((R.length : Int) / (n : Int)), fun w' hw' => ?_, hK _ ?_⟩
                  · have hq' := hw'
                    have z0 := kept_cell hw' c1; have hw := IntWalk.i64_in ((R.length : Int) / (n : Int)) (by omega); have hn0 : ¬ n = 0 := (by omega); go_simp
                  clear hK K
                  (try simp only [Act.put, List.setIfInBounds_toArray, List.set_cons_zero, List.set_cons_succ])
                  refine WQ.want (by rfl) (fun K hK => ?_)
                  refine ⟨.int .i64 ((R.length : Int) / (n : Int) + 1), fun w' hw' => ?_, hK _ ?_⟩
                  · have hq' := hw'
                    have z0 := kept_cell hw' c1; (have hw := IntWalk.i64_in ((R.length : Int) / (n : Int) + 1) (by omega)); go_simp
                  clear hK K
                  (try simp only [Act.put, List.setIfInBounds_toArray, List.set_cons_zero, List.set_cons_succ])
                  refine WQ.want (by rfl) (fun K hK => ?_)
                  refine ⟨.bool false, fun w' hw' => ?_, hK _ ?_⟩
                  · have hq' := hw'
                    have z0 := kept_cell hw' c1; go_simp
                  clear hK K
                  (try simp only [Act.put, List.setIfInBounds_toArray, List.set_cons_zero, List.set_cons_succ])
                  refine WQ.want (by rfl) (fun K hK => ?_)
                  refine ⟨.bool false, fun w' hw' => ?_, hK _ ?_⟩
                  · have hq' := hw'
                    go_simp
                  clear hK K
                  (try simp only [Act.put, List.setIfInBounds_toArray, List.set_cons_zero, List.set_cons_succ])
                  refine WQ.done ?_
                  rintro w10 hX10
                  have HS10 := Lib.hid (HS9.out.on hX10)
                  replace c1 := kept_cell hX10 c1
                  replace hB8 := hB8.trans (hX10.mono hB8.size)
                  clear hX10
                  go_wp2_with fail
                  go_loopw [185] (fun i wr => ∃ (q : Nat), i = .int .i64 q ∧ q ≤ A2.length ∧ Below w10.heap.size w10 wr) (fun i _ => A2.length - (intOf i).toNat)
                  case atStart => exact ⟨0, rfl, by omega, Below.refl _ _⟩
                  case round =>
                    obtain ⟨q, rfl, hq, hXi⟩ := hrel
                    have hq0 : (0 : Int) ≤ (q : Int) := Int.natCast_nonneg _
                    by_cases hql : q < A2.length
                    · have hq1 : (q : Int) < (A2.length : Int) := by omega
                      obtain ⟨g, hg, hg1, hg2, hgc⟩ := own_at HS10.out.sh.own (by omega)
                      subst hg
                      have a0 := kept_cell hXi (hgc q (.int .i64 n) (by unfold intsV; rw [List.getElem?_map, List.getElem?_eq_getElem hql, HA2.out q hql]; rfl))
                      clear hgc
                      go_wp2_with fail
                      exact ⟨⟨q + 1, by go_num, by omega, hXi⟩, by simp [intOf]; omega⟩
                    · obtain rfl : q = A2.length := by omega
                      go_wp2_with fail
                      go_ret
                      exact ⟨rfl, hB8.trans (hXi.mono hB8.size)⟩
        · as_aux_lemma =>
            clear hin
            go_wp2_with fail
            refine (new_arg (w.heap.size + 1) (S k0) (S k1) chunk w2 (by omega)).mono ?_
            rintro e w' ⟨rfl, rfl⟩
            have hbm : bmax 0 chunk = ((max 0 chunk).toNat : Int) := by unfold bmax; split <;> omega
            have hmm : ((max 0 chunk).toNat : Int) ≤ 9223372036854775807 := by omega
            generalize (max 0 chunk).toNat = mm at *
            go_upto_region 13 with (fail)
            have hn : (1 : Int) + (mm : Int) % 30 = ((1 + mm % 30 : Nat) : Int) := by omega
            rw [hn]
            have hn1 : 1 ≤ 1 + mm % 30 ∧ 1 + mm % 30 ≤ 30 := by omega
            generalize 1 + mm % 30 = n at *
            clear hn hbm hmm hmax
            go_wp2_with fail
            refine (new_ok (w.heap.size + 1) k0 k1 n w2 hn1.1 (by omega)).mono ?_
            rintro e w4 ⟨rfl, rfl⟩
            obtain ⟨w4, hw4⟩ : ∃ w4, w4 = w2.alloc (.cells (curCells (w.heap.size + 1) k0 k1 n) 105) := ⟨_, rfl⟩
            rw [← hw4]
            have hX4 : Below w2.heap.size w2 w4 := by rw [hw4]; go_grown
            have hS4 := St.fresh HS2.out hzr2 (by omega) k0 k1 n
            rw [← hw4] at hS4
            have HO4 := Lib.hid (own_below HO.out hX4)
            have hB4 := hB2.trans (hX4.mono hB2.size)
            have HS4 := Lib.hid hS4
            have hz4 := hS4.le
            clear hw4 hX4 hS4 HO HS2 hB2
            go_wp2_with fail
            refine (thread (wakes22_any w4) w4.heap.size w4 (Below.refl _ _) (Nat.le_refl _)).mono ?_
            rintro e w5 ⟨rfl, hX5, -, -, -, hz5⟩
            have HS5 := Lib.hid (HS4.out.on hX5)
            have HO5 := Lib.hid (own_below HO4.out hX5)
            have hB5 := hB4.trans (hX5.mono hB4.size)
            have HT0 := Lib.hid (te_start (L := L) (R := R) (n := n) (lo := k0) (hi := k1) HLR.out HRE.out hn1.1)
            clear hX5 HS4 HO4 hB4
            go_wp2_with fail
            go_loopw [121] (fun i wr => ∃ (j : Nat) (A : List Int) (C : CurS) (va : Value), i = .int .i64 j ∧ j ≤ R.length ∧ A.length ≤ j ∧ Hid (TeAt L R n j A C) ∧ Hid (St wr w1.heap.size (w2.heap.size + 1) w2.heap.size (w.heap.size + 1) va L 0 A C) ∧ Hid (wr.ownsRow w1.heap.size 68 2 (.slice rv R.length rc) R.length (cellsE R)) ∧ Below w.heap.size w wr ∧ w5.heap.size ≤ wr.heap.size) (fun i _ => R.length - (intOf i).toNat)
            case atStart => exact ⟨0, [], ⟨k0, k1, n, [], false⟩, .slice none 0 0, rfl, by omega, by simp, HT0, HS5, HO5, hB5, Nat.le_refl _⟩
            case round =>
              obtain ⟨j, A, C, va, rfl, hj, hAj, HT, HS, HO, hB, hzr⟩ := hrel
              obtain ⟨wo, hwo⟩ : ∃ wo, wo = wr := ⟨_, rfl⟩
              subst hwo
              have hj0 : (0 : Int) ≤ (j : Int) := Int.natCast_nonneg _
              have hneq := fun a b w => ent_neq_same a b w
              have hgrd := fun op x y xs ys w => ent_guard op x y xs ys w
              clear HS5 HO5 hB5
              by_cases hjl : j < R.length
              · as_aux_lemma =>
                  have hj1 : (j : Int) < (R.length : Int) := by omega
                  obtain ⟨g, hg, hg1, hg2, hgc⟩ := own_at HO.out (by omega)
                  subst hg
                  have z0 := hgc _ _ (cellsE_get R j hjl 0 _ rfl)
                  have z1 := hgc _ _ (cellsE_get R j hjl 1 _ rfl)
                  rw [Nat.add_zero] at z0
                  obtain ⟨A', C', hNe, hT', hA'⟩ := next_tells HT.out hjl
                  have hN := fun (W : World) (hW : St W w1.heap.size (w2.heap.size + 1) w2.heap.size (w.heap.size + 1) va L 0 A C) => next_any _ _ _ _ va L A 0 C W hW (by omega) (by omega) (fun x hx => Nat.le_trans (HLK.out x ((nextS_big HLK.out (cur_sub HT.out.ok)).1 x hx)) (by omega))
                  rw [hNe] at hN
                  have HN := Lib.hid hN
                  have HT' := Lib.hid hT'
                  clear hgc hNe hT' hN
                  generalize R[j] = x at *
                  go_upto_region 19 with (fail)
                  have hX0 := Below.refl wo.heap.size wo
                  obtain ⟨W, hW_W⟩ : ∃ W, W = (wo.alloc (.cells #[.string (S x.key), .string (S x.val)] 68)) := ⟨_, rfl⟩
                  rw [← hW_W]
                  have hX_W : Below wo.heap.size wo W := by rw [hW_W]; go_grown
                  have g0 : W.cell? ⟨wo.heap.size, 0, none⟩ = some (.string (S x.key)) := by rw [hW_W, World.cell?_alloc_at _ _ _ _ (by simp)]; rfl
                  have g1 : W.cell? ⟨wo.heap.size, 1, none⟩ = some (.string (S x.val)) := by rw [hW_W, World.cell?_alloc_at _ _ _ _ (by simp)]; rfl
                  have gf0 : W.frozen? ⟨wo.heap.size, 0, none⟩ = false := by rw [hW_W, World.frozen?_alloc_at _ _ _ _ (by simp)]
                  have gf1 : W.frozen? ⟨wo.heap.size, 1, none⟩ = false := by rw [hW_W, World.frozen?_alloc_at _ _ _ _ (by simp)]
                  clear hW_W
                  have hz_W := hX_W.size
                  replace hB := hB.trans (hX_W.mono hB.size)
                  replace hX0 := hX0.trans (hX_W.mono hX0.size)
                  clear hX_W
                  have HSW := Lib.hid (HS.out.on hX0)
                  have HOW := Lib.hid (own_below HO.out hX0)
                  have hzW : wo.heap.size < W.heap.size := World.block_lt_of_cell? W _ g0
                  have hzb := HS.out.le
                  go_wp2_with fail
                  refine (HN.out W HSW.out).mono ?_
                  rintro e w6 ⟨rfl, vb, hst, hch, hvb, -⟩
                  have hva : va.ownBlock ≠ some wo.heap.size := fun e => by have := (HS.out.sh.own.lt _ e).2; omega
                  have e0 := hch.cell g0 (by omega) (by omega) hva
                  have e1 := hch.cell g1 (by omega) (by omega) hva
                  have hO6 := own_chg HOW.out (fun g e => hch.block g (HOW.out.lt g e).2 (hrp g e) (hrq g e) (row_apart HOW.out HSW.out.sh.own (by decide) g e))
                  have hB6 := hch.below hB (by omega) (by omega) (fun i e => by have := (HSW.out.sh.own.lt i e).1; omega) hB.size
                  have HS6 := Lib.hid hst
                  have HO6 := Lib.hid hO6
                  have hz6 := hch.size
                  unfold tellV entO entV
                  simp only [Option.isSome]
                  clear hst hch hvb HN hO6 z0 z1 g0 g1 HS HO
                  go_upto_region 20 with (fail)
                  have hX6 := Below.refl w6.heap.size w6
                  obtain ⟨W7, hW_W7⟩ : ∃ W7, W7 = (w6.alloc (.cells #[.string (S x.key), .string (S x.val)] 55)) := ⟨_, rfl⟩
                  rw [← hW_W7]
                  have hX_W7 : Below w6.heap.size w6 W7 := by rw [hW_W7]; go_grown
                  have u0 : W7.cell? ⟨w6.heap.size, 0, none⟩ = some (.string (S x.key)) := by rw [hW_W7, World.cell?_alloc_at _ _ _ _ (by simp)]; rfl
                  have u1 : W7.cell? ⟨w6.heap.size, 1, none⟩ = some (.string (S x.val)) := by rw [hW_W7, World.cell?_alloc_at _ _ _ _ (by simp)]; rfl
                  clear hW_W7
                  have hz_W7 := hX_W7.size
                  replace e0 := kept_cell hX_W7 e0
                  replace e1 := kept_cell hX_W7 e1
                  replace hB6 := hB6.trans (hX_W7.mono hB6.size)
                  replace hX6 := hX6.trans (hX_W7.mono hX6.size)
                  clear hX_W7
                  have HS7 := Lib.hid (HS6.out.on hX6)
                  have HO7 := Lib.hid (own_below HO6.out hX6)
                  have hz7 := hX6.size
                  go_wp2_with fail
                  exact ⟨⟨j + 1, A', C', vb, by go_num, by omega, by omega, HT', HS7, HO7, hB6, by omega⟩, by simp [intOf]; omega⟩
              · as_aux_lemma =>
                  obtain rfl : j = R.length := by omega
                  obtain ⟨A1, C1, hN1e, hT1, hA1⟩ := next_done HT.out
                  obtain ⟨A2, C2, hN2e, hT2, hA2⟩ := next_done hT1
                  have hN1 := fun (W : World) (hW : St W w1.heap.size (w2.heap.size + 1) w2.heap.size (w.heap.size + 1) va L 0 A C) => next_any _ _ _ _ va L A 0 C W hW (by omega) (by omega) (fun x hx => Nat.le_trans (HLK.out x ((nextS_big HLK.out (cur_sub HT.out.ok)).1 x hx)) (by omega))
                  rw [hN1e] at hN1
                  have hA1l : A1.length ≤ 1000 := by rw [hA1, List.length_replicate]; have := Nat.div_le_self R.length n; omega
                  have hN2 := fun (W : World) (va' : Value) (hW : St W w1.heap.size (w2.heap.size + 1) w2.heap.size (w.heap.size + 1) va' L 0 A1 C1) => next_any _ _ _ _ va' L A1 0 C1 W hW (by omega) (by omega) (fun x hx => Nat.le_trans (HLK.out x ((nextS_big HLK.out (cur_sub hT1.ok)).1 x hx)) (by omega))
                  rw [hN2e] at hN2
                  have hA2l : A2.length = R.length / n + 1 := by rw [hA2, List.length_replicate]
                  have hA2c : ∀ i (hi : i < A2.length), A2[i] = (n : Int) := fun i hi => by simp [hA2]
                  have HN1 := Lib.hid hN1
                  have HN2 := Lib.hid hN2
                  have HA2 := Lib.hid hA2c
                  clear hN1 hN2 hN1e hN2e hT1 hT2 hA1 hA2 hA2c
                  have hdiv : R.length / n ≤ R.length := Nat.div_le_self _ _
                  have hzb := HS.out.le
                  go_wp2_with fail
                  refine (HN1.out wo HS.out).mono ?_
                  rintro e w6 ⟨rfl, vb, hst, hch, hvb, -⟩
                  have hB6 := hch.below hB (by omega) (by omega) (fun i e => by have := (HS.out.sh.own.lt i e).1; omega) hB.size
                  have HS6 := Lib.hid hst
                  unfold tellV entO
                  simp only [Option.isSome]
                  clear hst hch hvb HN1 HS HO
                  go_upto_region 24 with (fail)
                  have hX6 := Below.refl w6.heap.size w6
                  obtain ⟨W7, hW_W7⟩ : ∃ W7, W7 = (w6.alloc (.cells #[.string ⟨#[]⟩, .string ⟨#[]⟩] 55)) := ⟨_, rfl⟩
                  rw [← hW_W7]
                  have hX_W7 : Below w6.heap.size w6 W7 := by rw [hW_W7]; go_grown
                  have u0 : W7.cell? ⟨w6.heap.size, 0, none⟩ = some (.string ⟨#[]⟩) := by rw [hW_W7, World.cell?_alloc_at _ _ _ _ (by simp)]; rfl
                  have u1 : W7.cell? ⟨w6.heap.size, 1, none⟩ = some (.string ⟨#[]⟩) := by rw [hW_W7, World.cell?_alloc_at _ _ _ _ (by simp)]; rfl
                  clear hW_W7
                  have hz_W7 := hX_W7.size
                  replace hB6 := hB6.trans (hX_W7.mono hB6.size)
                  replace hX6 := hX6.trans (hX_W7.mono hX6.size)
                  clear hX_W7
                  have HS7 := Lib.hid (HS6.out.on hX6)
                  clear hX6 u0 u1
                  go_wp2_with fail
                  refine (HN2.out W7 _ HS7.out).mono ?_
                  rintro e w8 ⟨rfl, vc, hst, hch, hvb, -⟩
                  have hB8 := hch.below hB6 (by omega) (by omega) (fun i e => by have := (HS7.out.sh.own.lt i e).1; omega) hB6.size
                  have HS8 := Lib.hid hst
                  unfold tellV entO
                  simp only [Option.isSome]
                  clear hst hch hvb HN2 HS6 HS7 hB6
                  go_upto_region 25 with (fail)
                  have hX8 := Below.refl w8.heap.size w8
                  obtain ⟨W9, hW_W9⟩ : ∃ W9, W9 = (w8.alloc (.cells #[.string ⟨#[]⟩, .string ⟨#[]⟩] 55)) := ⟨_, rfl⟩
                  rw [← hW_W9]
                  have hX_W9 : Below w8.heap.size w8 W9 := by rw [hW_W9]; go_grown
                  have u0 : W9.cell? ⟨w8.heap.size, 0, none⟩ = some (.string ⟨#[]⟩) := by rw [hW_W9, World.cell?_alloc_at _ _ _ _ (by simp)]; rfl
                  have u1 : W9.cell? ⟨w8.heap.size, 1, none⟩ = some (.string ⟨#[]⟩) := by rw [hW_W9, World.cell?_alloc_at _ _ _ _ (by simp)]; rfl
                  clear hW_W9
                  have hz_W9 := hX_W9.size
                  replace hB8 := hB8.trans (hX_W9.mono hB8.size)
                  replace hX8 := hX8.trans (hX_W9.mono hX8.size)
                  clear hX_W9
                  have HS9 := Lib.hid (HS8.out.on hX8)
                  clear hX8 u0 u1
                  have hcv := own_form HS9.out.sh.own
                  obtain ⟨ga, ca, rfl⟩ := hcv
                  have c1 := HS9.out.sh.c1
                  have hd1 : ((R.length : Int) / (n : Int) + 1) = ((R.length / n + 1 : Nat) : Int) := by push_cast; rfl
                  have hdi : (0 : Int) ≤ (R.length : Int) / (n : Int) ∧ (R.length : Int) / (n : Int) ≤ 1000 := by
                    have : ((R.length / n : Nat) : Int) = (R.length : Int) / (n : Int) := by push_cast; rfl
                    have h3 : ((R.length / n : Nat) : Int) ≤ (R.length : Int) := Int.ofNat_le.mpr hdiv
                    rw [this] at h3
                    exact ⟨Int.ediv_nonneg (by omega) (by omega), by omega⟩
                  have HD1 := Lib.hid hd1
                  clear hd1
                  go_wp2_with fail
                  refine WQ.region (C := fun w' => Below W9.heap.size W9 w') (by kernel_rfl) (by kernel_rfl) (below_drew' (Below.refl _ _)) ?_
                  refine WQ.want (by rfl) (fun K hK => ?_)
                  refine ⟨.bool false, fun w' hw' => ?_, hK _ ?_⟩
                  · have hq' := hw'
                    go_simp
                  clear hK K
                  (try simp only [Act.put, List.setIfInBounds_toArray, List.set_cons_zero, List.set_cons_succ])
                  refine WQ.want (by rfl) (fun K hK => ?_)
                  refine ⟨.bool false, fun w' hw' => ?_, hK _ ?_⟩
                  · have hq' := hw'
                    go_simp
                  clear hK K
                  (try simp only [Act.put, List.setIfInBounds_toArray, List.set_cons_zero, List.set_cons_succ])
                  refine WQ.want (by rfl) (fun K hK => ?_)
                  refine ⟨.bool false, fun w' hw' => ?_, hK _ ?_⟩
                  · have hq' := hw'
                    go_simp
                  clear hK K
                  (try simp only [Act.put, List.setIfInBounds_toArray, List.set_cons_zero, List.set_cons_succ])
                  refine WQ.want (by rfl) (fun K hK => ?_)
                  refine ⟨.bool false, fun w' hw' => ?_, hK _ ?_⟩
                  · have hq' := hw'
                    go_simp
                  clear hK K
                  (try simp only [Act.put, List.setIfInBounds_toArray, List.set_cons_zero, List.set_cons_succ])
                  refine WQ.want (by rfl) (fun K hK => ?_)
                  refine ⟨.bool false, fun w' hw' => ?_, hK _ ?_⟩
                  · have hq' := hw'
                    go_simp
                  clear hK K
                  (try simp only [Act.put, List.setIfInBounds_toArray, List.set_cons_zero, List.set_cons_succ])
                  refine WQ.want (by rfl) (fun K hK => ?_)
                  refine ⟨.int .i64 0, fun w' hw' => ?_, hK _ ?_⟩
                  · have hq' := hw'
                    go_simp
                  clear hK K
                  (try simp only [Act.put, List.setIfInBounds_toArray, List.set_cons_zero, List.set_cons_succ])
                  refine WQ.want (by rfl) (fun K hK => ?_)
                  refine ⟨.bool false, fun w' hw' => ?_, hK _ ?_⟩
                  · have hq' := hw'
                    go_simp
                  clear hK K
                  (try simp only [Act.put, List.setIfInBounds_toArray, List.set_cons_zero, List.set_cons_succ])
                  refine WQ.want (by rfl) (fun K hK => ?_)
                  refine ⟨.bool false, fun w' hw' => ?_, hK _ ?_⟩
                  · have hq' := hw'
                    go_simp
                  clear hK K
                  (try simp only [Act.put, List.setIfInBounds_toArray, List.set_cons_zero, List.set_cons_succ])
                  refine WQ.want (by rfl) (fun K hK => ?_)
                  refine ⟨.bool false, fun w' hw' => ?_, hK _ ?_⟩
                  · have hq' := hw'
                    go_simp
                  clear hK K
                  (try simp only [Act.put, List.setIfInBounds_toArray, List.set_cons_zero, List.set_cons_succ])
                  refine WQ.want (by rfl) (fun K hK => ?_)
                  refine ⟨.int .i64 0, fun w' hw' => ?_, hK _ ?_⟩
                  · have hq' := hw'
                    go_simp
                  clear hK K
                  (try simp only [Act.put, List.setIfInBounds_toArray, List.set_cons_zero, List.set_cons_succ])
                  refine WQ.want (by rfl) (fun K hK => ?_)
                  refine ⟨.bool false, fun w' hw' => ?_, hK _ ?_⟩
                  · have hq' := hw'
                    go_simp
                  clear hK K
                  (try simp only [Act.put, List.setIfInBounds_toArray, List.set_cons_zero, List.set_cons_succ])
                  refine WQ.want (by rfl) (fun K hK => ?_)
                  refine ⟨.bool false, fun w' hw' => ?_, hK _ ?_⟩
                  · have hq' := hw'
                    go_simp
                  clear hK K
                  (try simp only [Act.put, List.setIfInBounds_toArray, List.set_cons_zero, List.set_cons_succ])
                  refine WQ.want (by rfl) (fun K hK => ?_)
                  refine ⟨.bool false, fun w' hw' => ?_, hK _ ?_⟩
                  · have hq' := hw'
                    go_simp
                  clear hK K
                  (try simp only [Act.put, List.setIfInBounds_toArray, List.set_cons_zero, List.set_cons_succ])
                  refine WQ.want (by rfl) (fun K hK => ?_)
                  refine ⟨.pointer (some ⟨w.heap.size + 1, 0, none⟩), fun w' hw' => ?_, hK _ ?_⟩
                  · have hq' := hw'
                    go_simp
                  clear hK K
                  (try simp only [Act.put, List.setIfInBounds_toArray, List.set_cons_zero, List.set_cons_succ])
                  refine WQ.want (by rfl) (fun K hK => ?_)
                  refine ⟨.pointer (some ⟨w.heap.size + 1, 0, none⟩), fun w' hw' => ?_, hK _ ?_⟩
                  · have hq' := hw'
                    go_simp
                  clear hK K
                  (try simp only [Act.put, List.setIfInBounds_toArray, List.set_cons_zero, List.set_cons_succ])
                  refine WQ.want (by rfl) (fun K hK => ?_)
                  refine ⟨.pointer (some ⟨w.heap.size + 1, 1, none⟩), fun w' hw' => ?_, hK _ ?_⟩
                  · have hq' := hw'
                    go_simp
                  clear hK K
                  (try simp only [Act.put, List.setIfInBounds_toArray, List.set_cons_zero, List.set_cons_succ])
                  refine WQ.want (by rfl) (fun K hK => ?_)
                  refine ⟨.slice ga A2.length ca, fun w' hw' => ?_, hK _ ?_⟩
                  · have hq' := hw'
                    have z0 := kept_cell hw' c1; go_simp
                  clear hK K
                  (try simp only [Act.put, List.setIfInBounds_toArray, List.set_cons_zero, List.set_cons_succ])
                  refine WQ.want (by rfl) (fun K hK => ?_)
                  refine ⟨.int .i64 A2.length, fun w' hw' => ?_, hK _ ?_⟩
                  · have hq' := hw'
                    go_simp
                  clear hK K
                  (try simp only [Act.put, List.setIfInBounds_toArray, List.set_cons_zero, List.set_cons_succ])
                  refine WQ.want (by rfl) (fun K hK => ?_)
                  refine ⟨.slice rv R.length rc, fun w' hw' => ?_, hK _ ?_⟩
                  · have hq' := hw'
                    go_simp
                  clear hK K
                  (try simp only [Act.put, List.setIfInBounds_toArray, List.set_cons_zero, List.set_cons_succ])
                  refine WQ.want (by rfl) (fun K hK => ?_)
                  refine ⟨.int .i64 R.length, fun w' hw' => ?_, hK _ ?_⟩
                  · have hq' := hw'
                    go_simp
                  clear hK K
                  (try simp only [Act.put, List.setIfInBounds_toArray, List.set_cons_zero, List.set_cons_succ])
                  refine WQ.want (by rfl) (fun K hK => ?_)
                  refine ⟨.int .i64 n, fun w' hw' => ?_, hK _ ?_⟩
                  · have hq' := hw'
                    go_simp
                  clear hK K
                  (try simp only [Act.put, List.setIfInBounds_toArray, List.set_cons_zero, List.set_cons_succ])
                  refine WQ.want (by rfl) (fun K hK => ?_)
                  refine ⟨.int .i64 ((R.length : Int) / (n : Int)), fun w' hw' => ?_, hK _ ?_⟩
                  · have hq' := hw'
                    have z0 := kept_cell hw' c1; have hw := IntWalk.i64_in ((R.length : Int) / (n : Int)) (by omega); have hn0 : ¬ n = 0 := (by omega); go_simp
                  clear hK K
                  (try simp only [Act.put, List.setIfInBounds_toArray, List.set_cons_zero, List.set_cons_succ])
                  refine WQ.want (by rfl) (fun K hK => ?_)
                  refine ⟨.int .i64 ((R.length : Int) / (n : Int) + 1), fun w' hw' => ?_, hK _ ?_⟩
                  · have hq' := hw'
                    have z0 := kept_cell hw' c1; (have hw := IntWalk.i64_in ((R.length : Int) / (n : Int) + 1) (by omega)); go_simp
                  clear hK K
                  (try simp only [Act.put, List.setIfInBounds_toArray, List.set_cons_zero, List.set_cons_succ])
                  refine WQ.want (by rfl) (fun K hK => ?_)
                  refine ⟨.bool false, fun w' hw' => ?_, hK _ ?_⟩
                  · have hq' := hw'
                    have z0 := kept_cell hw' c1; go_simp
                  clear hK K
                  (try simp only [Act.put, List.setIfInBounds_toArray, List.set_cons_zero, List.set_cons_succ])
                  refine WQ.want (by rfl) (fun K hK => ?_)
                  refine ⟨.bool false, fun w' hw' => ?_, hK _ ?_⟩
                  · have hq' := hw'
                    go_simp
                  clear hK K
                  (try simp only [Act.put, List.setIfInBounds_toArray, List.set_cons_zero, List.set_cons_succ])
                  refine WQ.done ?_
                  rintro w10 hX10
                  have HS10 := Lib.hid (HS9.out.on hX10)
                  replace c1 := kept_cell hX10 c1
                  replace hB8 := hB8.trans (hX10.mono hB8.size)
                  clear hX10
                  go_wp2_with fail
                  go_loopw [185] (fun i wr => ∃ (q : Nat), i = .int .i64 q ∧ q ≤ A2.length ∧ Below w10.heap.size w10 wr) (fun i _ => A2.length - (intOf i).toNat)
                  case atStart => exact ⟨0, rfl, by omega, Below.refl _ _⟩
                  case round =>
                    obtain ⟨q, rfl, hq, hXi⟩ := hrel
                    have hq0 : (0 : Int) ≤ (q : Int) := Int.natCast_nonneg _
                    by_cases hql : q < A2.length
                    · have hq1 : (q : Int) < (A2.length : Int) := by omega
                      obtain ⟨g, hg, hg1, hg2, hgc⟩ := own_at HS10.out.sh.own (by omega)
                      subst hg
                      have a0 := kept_cell hXi (hgc q (.int .i64 n) (by unfold intsV; rw [List.getElem?_map, List.getElem?_eq_getElem hql, HA2.out q hql]; rfl))
                      clear hgc
                      go_wp2_with fail
                      exact ⟨⟨q + 1, by go_num, by omega, hXi⟩, by simp [intOf]; omega⟩
                    · obtain rfl : q = A2.length := by omega
                      go_wp2_with fail
                      go_ret
                      exact ⟨rfl, hB8.trans (hXi.mono hB8.size)⟩

end Go.Proofs.Ythcjcmalfnfjkaa
