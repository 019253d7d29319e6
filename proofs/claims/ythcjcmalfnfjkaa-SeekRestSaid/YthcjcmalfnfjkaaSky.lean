/-
  The walk of SeekRest.
-/
import Derived.Test.YthcjcmalfnfjkaaSkr
import Derived.Deep.DeepCutAuto
import Derived.BigQuiet
namespace Go.Proofs.Ythcjcmalfnfjkaa
open Go.RowKit
set_option linter.unusedVariables false
attribute [local go_sem ↓] Go.wp_at_zero Go.wp_at_succ

set_option maxRecDepth 100000 in
set_option maxHeartbeats 16000000 in
theorem seekRest_walk (ao : Option Addr) (c : Nat) (l : List Int) (ch fs : Nat) (most : Int) (w : World) (hs : SlAt (fun x : Int => [Value.int .u8 x]) 1 w ao l) (hc : l.length ≤ c) (hx : ∀ x ∈ l, 0 ≤ x ∧ x < 256) (hl : (l.length : Int) ≤ 9223372036854775807) (hch : ch < 256) (hfs : fs < 256) (hmo : -9223372036854775808 ≤ most ∧ most ≤ 9223372036854775807) :
    Calls Try.prog 7 #[.agg #[.slice ao l.length c, .int .u8 ch, .int .u8 fs, .int .i64 most]] w fun e w' => e = .returned (.bool true) ∧ Below w.heap.size w w' := by
  obtain ⟨i0, hi0, iz0, iz1, iz2⟩ := info_parts infoE
  obtain ⟨hmo1, hmo2⟩ := hmo
  have hmin := fun ts t a b w => run_tmin (P := Try.prog) ts t a b w
  have hmax := fun ts t a b w => run_bmax (P := Try.prog) ts t a b w
  obtain ⟨hLr, hLl, hLk⟩ := made_ok l
  have HSL := Lib.hid hs
  have HX := Lib.hid hx
  have HLR := Lib.hid hLr
  have HLK := Lib.hid hLk
  clear hs hx hLr hLk
  go_enter Try.func7, Try.ntmps7
  go_upto_region 1 with (fail)
  have hB0 := Below.refl w.heap.size w
  obtain ⟨W0, hW_W0⟩ : ∃ W0, W0 = (w.alloc (.cells #[.slice ao l.length c, .int .u8 (ch : Int), .int .u8 (fs : Int), .int .i64 most] 76)) := ⟨_, rfl⟩
  rw [← hW_W0]
  have hX_W0 : Below w.heap.size w W0 := by rw [hW_W0]; go_grown
  have n0 : W0.cell? ⟨w.heap.size, 0, none⟩ = some (.slice ao l.length c) := by rw [hW_W0, World.cell?_alloc_at _ _ _ _ (by simp)]; rfl
  have n1 : W0.cell? ⟨w.heap.size, 1, none⟩ = some (.int .u8 (ch : Int)) := by rw [hW_W0, World.cell?_alloc_at _ _ _ _ (by simp)]; rfl
  have n2 : W0.cell? ⟨w.heap.size, 2, none⟩ = some (.int .u8 (fs : Int)) := by rw [hW_W0, World.cell?_alloc_at _ _ _ _ (by simp)]; rfl
  have n3 : W0.cell? ⟨w.heap.size, 3, none⟩ = some (.int .i64 most) := by rw [hW_W0, World.cell?_alloc_at _ _ _ _ (by simp)]; rfl
  clear hW_W0
  have hz_W0 := hX_W0.size
  replace hB0 := hB0.trans (hX_W0.mono hB0.size)
  clear hX_W0
  have hz0 : w.heap.size < W0.heap.size := World.block_lt_of_cell? W0 _ n0
  refine WQ.region (C := fun w' => Below W0.heap.size W0 w') (by kernel_rfl) (by kernel_rfl) (below_drew' (Below.refl _ _)) ?_
  refine WQ.want (by rfl) (fun K hK => ?_)
  refine ⟨.pointer (some ⟨w.heap.size, 1, none⟩), fun w' hw' => ?_, hK _ ?_⟩
  · have hq' := hw'
    go_simp
  clear hK K
  (try simp only [Act.put, List.setIfInBounds_toArray, List.set_cons_zero, List.set_cons_succ])
  refine WQ.want (by rfl) (fun K hK => ?_)
  refine ⟨.int .u8 (ch : Int), fun w' hw' => ?_, hK _ ?_⟩
  · have hq' := hw'
    have z0 := kept_cell hw' n1; have z1 := kept_cell hw' n2; have z2 := kept_cell hw' n3; go_simp
  clear hK K
  (try simp only [Act.put, List.setIfInBounds_toArray, List.set_cons_zero, List.set_cons_succ])
  refine WQ.want (by rfl) (fun K hK => ?_)
  refine ⟨.pointer (some ⟨w.heap.size, 2, none⟩), fun w' hw' => ?_, hK _ ?_⟩
  · have hq' := hw'
    go_simp
  clear hK K
  (try simp only [Act.put, List.setIfInBounds_toArray, List.set_cons_zero, List.set_cons_succ])
  refine WQ.want (by rfl) (fun K hK => ?_)
  refine ⟨.int .u8 (fs : Int), fun w' hw' => ?_, hK _ ?_⟩
  · have hq' := hw'
    have z0 := kept_cell hw' n1; have z1 := kept_cell hw' n2; have z2 := kept_cell hw' n3; go_simp
  clear hK K
  (try simp only [Act.put, List.setIfInBounds_toArray, List.set_cons_zero, List.set_cons_succ])
  refine WQ.want (by rfl) (fun K hK => ?_)
  refine ⟨.pointer (some ⟨w.heap.size, 3, none⟩), fun w' hw' => ?_, hK _ ?_⟩
  · have hq' := hw'
    go_simp
  clear hK K
  (try simp only [Act.put, List.setIfInBounds_toArray, List.set_cons_zero, List.set_cons_succ])
  refine WQ.want (by rfl) (fun K hK => ?_)
  refine ⟨.int .i64 most, fun w' hw' => ?_, hK _ ?_⟩
  · have hq' := hw'
    have z0 := kept_cell hw' n1; have z1 := kept_cell hw' n2; have z2 := kept_cell hw' n3; go_simp
  clear hK K
  (try simp only [Act.put, List.setIfInBounds_toArray, List.set_cons_zero, List.set_cons_succ])
  refine WQ.want (by rfl) (fun K hK => ?_)
  refine ⟨.int .u8 (ch : Int), fun w' hw' => ?_, hK _ ?_⟩
  · have hq' := hw'
    go_simp
  clear hK K
  (try simp only [Act.put, List.setIfInBounds_toArray, List.set_cons_zero, List.set_cons_succ])
  refine WQ.want (by rfl) (fun K hK => ?_)
  refine ⟨.int .u8 (fs : Int), fun w' hw' => ?_, hK _ ?_⟩
  · have hq' := hw'
    go_simp
  clear hK K
  (try simp only [Act.put, List.setIfInBounds_toArray, List.set_cons_zero, List.set_cons_succ])
  refine WQ.want (by rfl) (fun K hK => ?_)
  refine ⟨.int .i64 most, fun w' hw' => ?_, hK _ ?_⟩
  · have hq' := hw'
    go_simp
  clear hK K
  (try simp only [Act.put, List.setIfInBounds_toArray, List.set_cons_zero, List.set_cons_succ])
  refine WQ.done ?_
  rintro W1 hX1
  have hz1 := hX1.size
  replace n0 := kept_cell hX1 n0
  replace n1 := kept_cell hX1 n1
  replace n2 := kept_cell hX1 n2
  replace n3 := kept_cell hX1 n3
  replace hB0 := hB0.trans (hX1.mono hB0.size)
  clear hX1
  have HMA := Lib.hid (made_any ao c l W1 (HSL.out.kept hB0 (Nat.le_refl _)) hc HX.out hl)
  generalize madeL l = L at *
  go_wp2_with fail
  refine HMA.out.mono ?_
  rintro e w1 ⟨rfl, hsh, hXm⟩
  have hq1 : W1.heap.size < w1.heap.size := hsh.lt
  have hB1 := hB0.trans (hXm.mono (by omega))
  have HSH := Lib.hid hsh
  have hwq : w.heap.size < W1.heap.size := by omega
  clear HMA hXm hsh n0 n1 n2 n3 hB0 hz1 hz0
  generalize W1.heap.size = q at *
  clear W1
  go_wp2_with fail
  have hn : (1 : Int) + (ch : Int) % 20 = ((1 + ch % 20 : Nat) : Int) := by omega
  rw [hn]
  have hn1 : 1 ≤ 1 + ch % 20 ∧ 1 + ch % 20 ≤ 20 := by omega
  generalize 1 + ch % 20 = n at *
  clear hn
  refine (new_ok q [] [] n w1 hn1.1 (by omega)).mono ?_
  rintro e w2 ⟨rfl, rfl⟩
  obtain ⟨w2, hw2⟩ : ∃ w2, w2 = w1.alloc (.cells (curCells q [] [] n) 105) := ⟨_, rfl⟩
  rw [← hw2]
  have hS2 := St.fresh HSH.out (Nat.le_refl _) hq1 [] [] n
  rw [← hw2] at hS2
  have hB2 : Below w.heap.size w w2 := by rw [hw2]; exact hB1.alloc (by omega) _
  have hz2 := hS2.le
  have HS2 := Lib.hid hS2
  clear hw2 hS2 hB1 HSH
  go_wp2_with fail
  have hm : (1 : Int) + (n : Int) / 2 = ((1 + n / 2 : Nat) : Int) := by omega
  rw [hm]
  have hm1 : 1 ≤ 1 + n / 2 ∧ 1 + n / 2 ≤ 11 := by omega
  generalize 1 + n / 2 = m at *
  clear hm
  refine (new_ok q [] [] m w2 hm1.1 (by omega)).mono ?_
  rintro e w3 ⟨rfl, rfl⟩
  obtain ⟨w3, hw3⟩ : ∃ w3, w3 = w2.alloc (.cells (curCells q [] [] m) 105) := ⟨_, rfl⟩
  rw [← hw3]
  have hS3 := St.fresh HS2.out.sh (by omega) (by omega) [] [] m
  have hX3 : Below w2.heap.size w2 w3 := by rw [hw3]; go_grown
  rw [← hw3] at hS3
  have hCa := CuAt.lift (HS2.out.on hX3).cu rfl (by omega : w1.heap.size + 1 ≤ w2.heap.size + 1) rfl
  have HSa := Lib.hid (St.mk hCa hS3.sh hS3.le)
  have HCb := Lib.hid hS3.cu
  have hB3 := hB2.trans (hX3.mono hB2.size)
  have hz3 := hS3.le
  clear hw3 hS3 hX3 HS2 hB2 hCa
  go_wp2_with fail
  refine (thread (wakes22_any w3) w3.heap.size w3 (Below.refl _ _) (Nat.le_refl _)).mono ?_
  rintro e w4 ⟨rfl, hX4, -, -, -, hz4⟩
  have HSa4 := Lib.hid (HSa.out.on hX4)
  have HCb4 := Lib.hid (HCb.out.on hX4)
  have hB4 := hB3.trans (hX4.mono hB3.size)
  have HCF := fun n hn => CurOk.fresh HLR.out [] [] n hn
  obtain ⟨A1, C1, hR1, hC1, hr1, hA1⟩ := rest_eq (n := fs) (A := []) (HCF n hn1.1)
  rw [rem_fresh] at hR1 hr1 hA1
  have hrs := rest_any _ _ _ _ _ _ _ _ _ (fs : Int) w4 HSa4.out (by simp) (by omega) HLK.out (HCF n hn1.1) (Int.le_refl _) (by omega)
  rw [Int.toNat_natCast, hR1] at hrs
  have HRS := Lib.hid hrs
  obtain ⟨A2, C2, hR2, -, -, hA2⟩ := rest_eq (n := most.toNat) (A := A1) hC1
  rw [hr1] at hR2 hA2
  obtain ⟨Z, hZ⟩ : ∃ Z, Z = L.take (fs + most.toNat) := ⟨_, rfl⟩
  have hZs : Z = L.take fs ++ (L.drop fs).take most.toNat := hZ.trans List.take_add
  have hZl : Z.length ≤ L.length := by rw [hZ, List.length_take]; omega
  have HZg := Lib.hid (show ∀ j (hj : j < Z.length), Z[j] = L[j]'(by omega) from fun j hj => by simp [hZ])
  have hXl : (L.take fs).length = min fs L.length := List.length_take
  have hYl : ((L.drop fs).take most.toNat).length = min most.toNat (L.length - fs) := by rw [List.length_take, List.length_drop]
  have hr2 := fun va w h => rest_any w1.heap.size (w2.heap.size + 1) w1.heap.size q va L A1 0 C1 most w h (by simp at hA1; omega) (by omega) HLK.out hC1 (Int.le_refl _) hmo2
  rw [hR2] at hr2
  have HR2 := Lib.hid hr2
  have hA2l : A2.length ≤ 1000 := by simp at hA1 hA2; omega
  clear hrs hR1 hC1 hr1 hA1 hR2 hA2 hZ hr2 hX4 HSa HCb hB3
  generalize L.take fs = X at *
  generalize (L.drop fs).take most.toNat = Y at *
  have hZn : X.length + Y.length = Z.length := by rw [hZs, List.length_append]
  have hZc : cellsE X ++ cellsE Y = cellsE Z := by rw [hZs, cellsE_append]
  have hmn1 : tmin (fs : Int) (L.length : Int) = (X.length : Int) := by unfold tmin; split <;> omega
  have hmn2 : tmin (bmax 0 most) ((L.length : Int) - (X.length : Int)) = (Y.length : Int) := by unfold tmin bmax; split <;> split <;> omega
  have hX256 : X.length ≤ 256 := by omega
  have hY256 : Y.length ≤ 256 := by omega
  have HZN := Lib.hid hZn
  have HZC := Lib.hid hZc
  clear hZs hXl hYl hZn hZc
  go_wp2_with fail
  refine HRS.out.mono ?_
  rintro e w5 ⟨a5, c5, rfl, hown5, va5, hst5, hch5, hvb5⟩
  dsimp only at hown5 hst5 hch5 ⊢
  have HO5 := Lib.hid hown5
  have HS5 := Lib.hid hst5
  have hB5 := hch5.below hB4 (by omega) (by omega) (fun i e => by simp [Value.ownBlock] at e) hB4.size
  have HCb5 := Lib.hid (CuAt.lift HCb4.out rfl (Nat.le_refl _) (hch5.block _ (by omega) (by omega) (by omega) (by simp [Value.ownBlock])))
  have hz5 := hch5.size
  clear hown5 hst5 hch5 hvb5 HRS HSa4 HCb4 hB4
  go_wp2_with fail
  refine (HR2.out _ _ HS5.out).mono ?_
  rintro e w6 ⟨a6, c6, rfl, hown6, va6, hst6, hch6, hvb6⟩
  dsimp only at hown6 hst6 hch6 ⊢
  have hX6 := own_chg HO5.out (fun g e => hch6.block g (HO5.out.lt g e).2 (by have := (HO5.out.lt g e).1; omega) (by have := (HO5.out.lt g e).1; omega) (row_apart HO5.out HS5.out.sh.own (by decide) g e))
  have HO6 := Lib.hid hX6
  have HY6 := Lib.hid hown6
  have hCb6 := CuAt.lift HCb5.out rfl (Nat.le_refl _) (hch6.block _ (by omega) (by omega) (by omega) (fun e => by have := (HS5.out.sh.own.lt _ e).1; omega))
  have HS6 := Lib.hid (St.mk hCb6 hst6.sh hst6.le)
  have hB6 := hch6.below hB5 (by omega) (by omega) (fun i e => by have := (HS5.out.sh.own.lt i e).1; omega) hB5.size
  obtain ⟨aL, cL, c0, -⟩ := hst6.sh.c0
  have hz6 := hch6.size
  have hq6 := World.block_lt_of_cell? w6 _ c0
  clear hown6 hst6 hch6 hvb6 hX6 hCb6 HR2 HS5 HO5 HCb5 hB5
  go_upto_region 12 with (fail)
  go_wp2_with (at_builtin; refine wpList_append_srcK _ rfl (.tmp 116) (.tmp 117) 49 rfl w4.heap.size 55 i0 (.agg #[.string ByteArray.empty, .string ByteArray.empty]) 2 32 Try.underlying49 hi0 iz0 iz1 iz2 rfl (by decide) _ X.length _ rfl HO6.out a6 Y.length c6 (cellsE Y) rfl (cellsE_len _) (own_src HY6.out).1 (own_src HY6.out).2 (cellsE_oneCell _) (by unfold maxLen; omega) (by omega) (by omega) Z.length (cellsE Z) HZN.out HZC.out ?_; intro wv wz hownz hgroz hbz; obtain ⟨gz, cz, ez⟩ := own_form hownz; subst ez; have HOz := Lib.hid hownz; have HGz := Lib.hid hgroz; clear hownz hgroz hbz)
  have hSz := HS6.out.grow HGz.out (fun k e => ⟨by have := (HO6.out.lt k e).1; omega, row_apart HO6.out HS6.out.sh.own (by decide) k e, NotAt.nil HS6.out.cu rfl k⟩)
  have HSz := Lib.hid hSz
  have hBz := below_grown hB6 HGz.out (fun k e => by have := (HO6.out.lt k e).1; omega) hB6.size
  have hzz := HGz.out.size
  clear HS6 HO6 HY6 hB6 HGz c0 hmn1 hmn2 hSz HZN HZC
  go_loopw [120] (fun i wr => ∃ (j : Nat) (A : List Int) (C : CurS) (va : Value), i = .int .i64 j ∧ j ≤ Z.length ∧ A.length ≤ 1000 + j ∧ Hid (CurOk L C ∧ remL L C = L.drop j) ∧ Hid (St wr w1.heap.size (w2.heap.size + 1) w2.heap.size q va L 0 A C) ∧ Hid (wr.ownsRow w4.heap.size 55 2 (.slice gz Z.length cz) Z.length (cellsE Z)) ∧ Below w.heap.size w wr ∧ w4.heap.size ≤ wr.heap.size) (fun i _ => Z.length - (intOf i).toNat)
  case atStart => exact ⟨0, A2, ⟨[], [], m, [], false⟩, va6, rfl, by omega, by omega, Lib.hid ⟨HCF m hm1.1, rem_fresh _ _⟩, HSz, HOz, hBz, by omega⟩
  case round =>
    obtain ⟨j, A, C, va, rfl, hj, hAj, HT, HS, HO, hB, hzr⟩ := hrel
    obtain ⟨wo, hwo⟩ : ∃ wo, wo = wr := ⟨_, rfl⟩
    subst hwo
    have hj0 : (0 : Int) ≤ (j : Int) := Int.natCast_nonneg _
    have hneq := fun a b w => ent_neq_same a b w
    have hgrd := fun op x y xs ys w => ent_guard op x y xs ys w
    clear HSz HOz hBz
    by_cases hjl : j < Z.length
    · as_aux_lemma =>
        have hj1 : (j : Int) < (Z.length : Int) := by omega
        obtain ⟨g, hg, hg1, hg2, hgc⟩ := own_at HO.out (by omega)
        subst hg
        have z0 := hgc _ _ (cellsE_get Z j hjl 0 _ rfl)
        have z1 := hgc _ _ (cellsE_get Z j hjl 1 _ rfl)
        rw [Nat.add_zero] at z0
        obtain ⟨A', C', hNe, hok', hrm', hA'⟩ := next_eq (A := A) HT.out.1 HT.out.2 (by omega)
        rw [← HZg.out j hjl] at hNe
        have hN := fun (W : World) (hW : St W w1.heap.size (w2.heap.size + 1) w2.heap.size q va L 0 A C) => next_any _ _ _ _ va L A 0 C W hW (by omega) (by omega) (fun x hx => Nat.le_trans (HLK.out x ((nextS_big HLK.out (cur_sub HT.out.1)).1 x hx)) (by omega))
        rw [hNe] at hN
        have HN := Lib.hid hN
        have HT' := Lib.hid (And.intro hok' hrm')
        clear hgc hNe hok' hrm' hN HZg
        generalize Z[j] = x at *
        go_upto_region 15 with (fail)
        have hX0 := Below.refl wo.heap.size wo
        obtain ⟨W, hW_W⟩ : ∃ W, W = (wo.alloc (.cells #[.string (S x.key), .string (S x.val)] 55)) := ⟨_, rfl⟩
        rw [← hW_W]
        have hX_W : Below wo.heap.size wo W := by rw [hW_W]; go_grown
        have g0 : W.cell? ⟨wo.heap.size, 0, none⟩ = some (.string (S x.key)) := by rw [hW_W, World.cell?_alloc_at _ _ _ _ (by simp)]; rfl
        have g1 : W.cell? ⟨wo.heap.size, 1, none⟩ = some (.string (S x.val)) := by rw [hW_W, World.cell?_alloc_at _ _ _ _ (by simp)]; rfl
        have gf0 : W.frozen? ⟨wo.heap.size, 0, none⟩ = false := by rw [hW_W, World.frozen?_alloc_at _ _ _ _ (by simp)]
        have gf1 : W.frozen? ⟨wo.heap.size, 1, none⟩ = false := by rw [hW_W, World.frozen?_alloc_at _ _ _ _ (by simp)]
        clear hW_W
        have hz_W := hX_W.size
        replace hB := hB.trans (hX_W.mono hB.size)
        replace hX0 := hX0.trans (hX_W.mono hX0.size)
        clear hX_W
        have HSW := Lib.hid (HS.out.on hX0)
        have HOW := Lib.hid (own_below HO.out hX0)
        have hzW : wo.heap.size < W.heap.size := World.block_lt_of_cell? W _ g0
        have hzb := HS.out.le
        go_wp2_with fail
        refine (HN.out W HSW.out).mono ?_
        rintro e w7 ⟨rfl, vb, hst, hch, hvb, -⟩
        have hva : va.ownBlock ≠ some wo.heap.size := fun e => by have := (HS.out.sh.own.lt _ e).2; omega
        have e0 := hch.cell g0 (by omega) (by omega) hva
        have e1 := hch.cell g1 (by omega) (by omega) hva
        have hO7 := own_chg HOW.out (fun g e => hch.block g (HOW.out.lt g e).2 (by have := (HOW.out.lt g e).1; omega) (by have := (HOW.out.lt g e).1; omega) (row_apart HOW.out HSW.out.sh.own (by decide) g e))
        have hB7 := hch.below hB (by omega) (by omega) (fun i e => by have := (HSW.out.sh.own.lt i e).1; omega) hB.size
        have HS7 := Lib.hid hst
        have HO7 := Lib.hid hO7
        have hz7 := hch.size
        unfold tellV entO entV
        simp only [Option.isSome]
        clear hst hch hvb HN hO7 z0 z1 g0 g1 HS HO
        go_upto_region 16 with (fail)
        have hX7 := Below.refl w7.heap.size w7
        obtain ⟨W8, hW_W8⟩ : ∃ W8, W8 = (w7.alloc (.cells #[.string (S x.key), .string (S x.val)] 55)) := ⟨_, rfl⟩
        rw [← hW_W8]
        have hX_W8 : Below w7.heap.size w7 W8 := by rw [hW_W8]; go_grown
        have u0 : W8.cell? ⟨w7.heap.size, 0, none⟩ = some (.string (S x.key)) := by rw [hW_W8, World.cell?_alloc_at _ _ _ _ (by simp)]; rfl
        have u1 : W8.cell? ⟨w7.heap.size, 1, none⟩ = some (.string (S x.val)) := by rw [hW_W8, World.cell?_alloc_at _ _ _ _ (by simp)]; rfl
        clear hW_W8
        have hz_W8 := hX_W8.size
        replace e0 := kept_cell hX_W8 e0
        replace e1 := kept_cell hX_W8 e1
        replace hB7 := hB7.trans (hX_W8.mono hB7.size)
        replace hX7 := hX7.trans (hX_W8.mono hX7.size)
        clear hX_W8
        have HS8 := Lib.hid (HS7.out.on hX7)
        have HO8 := Lib.hid (own_below HO7.out hX7)
        have hz8 := hX7.size
        go_wp2_with fail
        exact ⟨⟨j + 1, A', C', vb, by go_num, by omega, by omega, HT', HS8, HO8, hB7, by omega⟩, by simp [intOf]; omega⟩
    · obtain rfl : j = Z.length := by omega
      go_wp2_with fail
      go_ret
      exact ⟨rfl, hB⟩

end Go.Proofs.Ythcjcmalfnfjkaa
