/-
  The walk of TableMoves.
-/
import Derived.Test.YtblleinahlaohaaBsm
import Derived.Test.YtblleinahlaohaaZla
namespace Go.Proofs.Ytblleinahlaohaa
open Go.RowKit Go.Shelf
set_option linter.unusedVariables false
attribute [local go_sem ↓] Go.wp_at_zero Go.wp_at_succ

theorem underBi : Try.prog.underlying 23 = some (.slice (Try.prog.elem 23)) := by rw [show Try.prog.elem 23 = 3 by kernel_rfl]; exact Try.underlying23
theorem sizeElemBi (w : World) : (sizeOf (Try.prog.elem 23)).run Try.prog w = .ok 1 w := by kernel_rfl
theorem cut_Bi (ao : Option Addr) (n c i : Nat) (hin : i ≤ n) (hnc : n ≤ c) (w : World) : (Instr.slice 23 (.slice ao n c) none (some (.int .i64 (i : Int))) none).run Try.prog w = .ok (.slice ao i c) w := by
  rw [run_slice_h w 23 ao n c underBi .i64 i (by omega) (by omega)]
  rw [sizeElemBi]
  have e : ao.map (·.add 0) = ao := by cases ao <;> simp [Addr.add]
  simp [Result.andThen, sliced, e]
theorem bmax0 (x : Int) : ∃ y : Nat, bmax 0 x = (y : Int) := ⟨x.toNat, by unfold bmax; split <;> omega⟩

set_option maxRecDepth 100000 in
set_option maxHeartbeats 16000000 in
theorem tableMoves_walk (bl sl : Int) (ao : Option Addr) (c : Nat) (l : List Int) (w : World) (hs : SlAt (fun x : Int => [Value.int .i64 x]) 1 w ao l) (hc : l.length ≤ c) (hx : ∀ x ∈ l, -9223372036854775808 ≤ x ∧ x ≤ 9223372036854775807) (hl : (l.length : Int) ≤ 9223372036854775807) (hcc : (c : Int) ≤ 9223372036854775807) :
    Calls Try.prog 5 #[.int .i64 bl, .int .i64 sl, .slice ao l.length c] w fun e w' => e = .returned (.bool true) ∧ Below w.heap.size w w' := by
  have hmin := fun ts t a b w => run_tmin (P := Try.prog) ts t a b w
  have hmax := fun ts t a b w => run_bmax (P := Try.prog) ts t a b w
  have hm1 : tmin (l.length : Int) 20 = ((min l.length 20 : Nat) : Int) := tmin_nat l.length 20
  obtain ⟨m, hm⟩ : ∃ m, m = min l.length 20 := ⟨_, rfl⟩
  rw [← hm] at hm1
  have hcut := fun w => cut_Bi ao l.length c m (by omega) hc w
  obtain ⟨y, hy⟩ := bmax0 bl
  obtain ⟨z, hz⟩ := bmax0 sl
  have hw1 : IntKind.i64.wrap (1 + (y : Int) % 12) = 1 + (y : Int) % 12 := IntWalk.i64_in _ (by omega)
  have HS := Lib.hid hs
  have HX := Lib.hid hx
  have hml : m ≤ l.length := by omega
  clear hs hx hm
  by_cases hmay : MayBe bl sl
  case' pos =>
    have hmd : decide (MayBe bl sl) = true := decide_eq_true hmay
    obtain ⟨g1, g2, g3, g4⟩ := hmay
    go_enter Try.func5, Try.ntmps5
    go_wp2_with fail
    refine (new_ok bl sl w g1 g2 g3 g4).mono ?_
    rintro e w1 ⟨rfl, hB1⟩
    go_upto_region 2 with (fail)
    have HL2 := Lib.hid (hB1.trans ((show Below w1.heap.size w1 (w1.alloc (.cells #[.int .i64 bl, .int .i64 sl, .slice none 0 0] 25)) by go_grown).mono hB1.size))
    obtain ⟨w2, hw2⟩ : ∃ w2, w2 = w1.alloc (.cells #[.int .i64 bl, .int .i64 sl, .slice none 0 0] 25) := ⟨_, rfl⟩
    rw [← hw2] at HL2 ⊢
    clear hw2 hB1
    go_upto_region 4 with (go_at_call 15; go_must (refine (may_any bl sl w2).mono ?_; rintro e w3 ⟨rfl, hB3⟩; have HLA := Lib.hid (HL2.out.trans (hB3.mono HL2.out.size)); clear hB3))
    obtain ⟨wk, hwk⟩ : ∃ wk, wk = w3 := ⟨_, rfl⟩
    subst hwk
  case' neg =>
    have hmd : decide (MayBe bl sl) = false := decide_eq_false hmay
    go_enter Try.func5, Try.ntmps5
    go_wp2_with fail
    refine (new_bad bl sl w hmay).mono ?_
    rintro e w1 ⟨rfl, hB1⟩
    go_upto_region 2 with (fail)
    have HL2 := Lib.hid (hB1.trans ((show Below w1.heap.size w1 (w1.alloc (.cells #[.int .i64 0, .int .i64 0, .slice none 0 0] 25)) by go_grown).mono hB1.size))
    have B7 := Lib.hid (BoxT.new (w := w1) (nb := 0) (sp := 0) (sv := .slice none 0 0) (zs := []) rfl (Or.inl ⟨rfl, rfl⟩) 25)
    obtain ⟨w2, hw2⟩ : ∃ w2, w2 = w1.alloc (.cells #[.int .i64 0, .int .i64 0, .slice none 0 0] 25) := ⟨_, rfl⟩
    rw [← hw2] at HL2 B7 ⊢
    clear hw2 hB1 hmay
    go_upto_region 4 with (first
      | (go_at_call 15; go_must (refine (may_any bl sl w2).mono ?_; rintro e w3 ⟨rfl, hB3⟩; have HL3 := Lib.hid (HL2.out.trans (hB3.mono HL2.out.size)); have B73 := Lib.hid (B7.out.on hB3); obtain ⟨k0, k1, k2, -, -⟩ := B73.out; clear hB3))
      | (go_at_call 16; go_must (refine (blocks_any 0 0 none 0 0 w3).mono ?_; rintro e w4 ⟨rfl, hB4⟩; have HLA := Lib.hid (HL3.out.trans (hB4.mono HL3.out.size)); clear hB4)))
    obtain ⟨wk, hwk⟩ : ∃ wk, wk = w4 := ⟨_, rfl⟩
    subst hwk
  all_goals
    go_upto_region 5 with (fail)
    obtain ⟨nb, hnb⟩ : ∃ nb, nb = 1 + (y : Int) % 12 := ⟨_, rfl⟩
    obtain ⟨sp, hsp⟩ : ∃ sp, sp = (z : Int) % 6 := ⟨_, rfl⟩
    rw [← hnb, ← hsp]
    have hnb0 : 1 ≤ nb := by omega
    have hnb1 : nb ≤ 12 := by omega
    have hsp0 : 0 ≤ sp := by omega
    have hsp1 : sp ≤ 5 := by omega
    clear hnb hsp hy hz hw1 hmd
    have HM := Lib.hid (show MayBe nb sp from ⟨hnb0, by omega, hsp0, by omega⟩)
    go_wp2_with fail
    refine (new_ok nb sp wk hnb0 (by omega) hsp0 (by omega)).mono ?_
    rintro e w5 ⟨rfl, hB5⟩
    have HL5 := Lib.hid (HLA.out.trans (hB5.mono HLA.out.size))
    go_upto_region 6 with (fail)
    have hX : Below w5.heap.size w5 (w5.alloc (.cells #[.int .i64 nb, .int .i64 sp, .slice none 0 0] 25)) := by go_grown
    have BT := Lib.hid (BoxT.new (w := w5) (nb := nb) (sp := sp) (sv := .slice none 0 0) (zs := []) rfl (Or.inl ⟨rfl, rfl⟩) 25)
    obtain ⟨w6, hw6⟩ : ∃ w6, w6 = w5.alloc (.cells #[.int .i64 nb, .int .i64 sp, .slice none 0 0] 25) := ⟨_, rfl⟩
    have HL6 := Lib.hid (HL5.out.trans (hX.mono HL5.out.size))
    have hw5 := HL5.out.size
    rw [← hw6] at hX BT HL6 ⊢
    clear hw6 hX hB5 HL5 HLA
    go_wp2_with fail
    refine (wakes06 w6).mono ?_
    rintro e w7 ⟨rfl, hB7⟩
    have B7' := Lib.hid (BT.out.on hB7)
    have HL7 := Lib.hid (HL6.out.trans (hB7.mono HL6.out.size))
    clear hB7 BT HL6
    obtain ⟨k0, k1, k2, -, -⟩ := B7'.out
    go_wp2_with fail
    refine (same06 nb sp (.slice none 0 0) (.slice none 0 0) [] w7 HM.out B7'.out.ints (Or.inl ⟨rfl, rfl⟩) (fun z hz => by simp at hz) (by simpa using hsp0)).mono ?_
    rintro e w8 ⟨rfl, hB8⟩
    have B8 := Lib.hid (B7'.out.on hB8)
    have HL8 := Lib.hid (HL7.out.trans (hB8.mono HL7.out.size))
    clear hB8 B7' HL7 k0 k1 k2
    go_wp2_with fail
    go_loopw [13, 78] (fun mv i wr => ∃ (j : Nat) (sa : Option Addr) (sn sc : Nat) (ma : Option Addr) (mc : Nat) (zs : List Int), i = .int .i64 j ∧ mv = .slice ma sn mc ∧ j ≤ m ∧ Hid (sn = zs.length) ∧ (sn : Int) ≤ sp ∧ Hid (∀ z ∈ zs, 0 ≤ z ∧ z < nb) ∧ Hid (BoxT wr w5.heap.size nb sp (.slice sa sn sc) zs) ∧ Hid (Ints wr.heap.size wr (.slice ma sn mc) zs) ∧ Hid (∀ k, (Value.slice sa sn sc).ownBlock = some k → w5.heap.size < k) ∧ Hid (∀ k, (Value.slice ma sn mc).ownBlock = some k → w5.heap.size < k) ∧ Hid (Below w.heap.size w wr)) (fun _ i _ => m - (intOf i).toNat)
    case atStart => exact ⟨0, none, 0, 0, none, 0, [], rfl, rfl, Nat.zero_le _, Lib.hid rfl, by simpa using hsp0, Lib.hid (fun z hz => by simp at hz), B8, Lib.hid (Or.inl ⟨rfl, rfl⟩), Lib.hid (fun k e => by simp [Value.ownBlock] at e), Lib.hid (fun k e => by simp [Value.ownBlock] at e), HL8⟩
    case round =>
      obtain ⟨j, sa, sn, sc, ma, mc, zs, rfl, rfl, hj, HSN, hsn, HZ, B, HI, HV, HMV, HB⟩ := hrel
      have hj0 : (0 : Int) ≤ (j : Int) := Int.natCast_nonneg _
      have hzr := HB.out.size
      have hbl := B.out.lt
      by_cases hjm : j < m
      · have hj1 : (j : Int) < (m : Int) := by omega
        obtain ⟨b, off, rfl, hb, hcl⟩ := HS.out.at (by omega)
        have q0 := (cell_below HB.out hb _).trans (hcl j (by omega) 0 _ rfl)
        simp only [Nat.add_zero, Nat.mul_one] at q0
        obtain ⟨hx0, hx1⟩ := HX.out _ (List.getElem_mem (show j < l.length by omega))
        clear hcl
        generalize l[j]'(by omega) = x at *
        obtain ⟨k0, k1, k2, -, -⟩ := B.out
        by_cases hin : 0 ≤ x ∧ x < nb
        · by_cases hfull : (sn : Int) < sp
          · go_wp2_with fail
            refine (move_ok nb sp (.slice sa sn sc) zs x _ B.out.ints hin (by rw [← HSN.out]; exact hfull) (by omega)).mono ?_
            rintro e w9 ⟨⟨v9, rfl, hi9, hv9⟩, hB9⟩
            obtain ⟨va, vc, hv⟩ := hi9.len
            rw [List.length_append, ← HSN.out, List.length_singleton] at hv
            subst hv
            have B9 := Lib.hid (B.out.on hB9)
            have HI9 := Lib.hid (HI.out.kept hB9)
            have HN9 := Lib.hid hi9
            have HV9 := Lib.hid (show ∀ k, (Value.slice va (sn + 1) vc).ownBlock = some k → w5.heap.size < k from fun k e => Nat.lt_of_lt_of_le hbl (hv9 k e))
            have HL9 := Lib.hid (HB.out.trans (hB9.mono hzr))
            clear hB9 B HI HB k0 k1 k2 hi9 hv9
            go_upto_region 13 with (fail)
            have hX : Below w9.heap.size w9 (w9.alloc (.cells #[.int .i64 nb, .int .i64 sp, .slice va (sn + 1) vc] 25)) := by go_grown
            have BU := Lib.hid (BoxT.new (w := w9) (nb := nb) (sp := sp) rfl HN9.out 25)
            obtain ⟨w10, hw10⟩ : ∃ w10, w10 = w9.alloc (.cells #[.int .i64 nb, .int .i64 sp, .slice va (sn + 1) vc] 25) := ⟨_, rfl⟩
            have B10 := Lib.hid (B9.out.on hX)
            have HI10 := Lib.hid (HI9.out.kept hX)
            have HL10 := Lib.hid (HL9.out.trans (hX.mono HL9.out.size))
            have hz10 : w5.heap.size < w10.heap.size := by have := B10.out.lt; rwa [← hw10] at this
            rw [← hw10] at BU B10 HI10 HL10 ⊢
            clear hw10 hX B9 HI9 HL9 HN9
            go_wp2_with fail
            refine (refMove_ok nb sp (.slice ma sn mc) zs x w10 HI10.out hin (by rw [← HSN.out]; exact hfull) (by omega)).mono ?_
            rintro e w11 ⟨⟨u11, rfl, hi11, hv11⟩, hB11⟩
            obtain ⟨na, nc, hv⟩ := hi11.len
            rw [List.length_append, ← HSN.out, List.length_singleton] at hv
            subst hv
            have BU1 := Lib.hid (BU.out.on hB11)
            have B11 := Lib.hid (B10.out.on hB11)
            have HI11 := Lib.hid (HI10.out.kept hB11)
            have HN11 := Lib.hid hi11
            have HV11 := Lib.hid (show ∀ k, (Value.slice na (sn + 1) nc).ownBlock = some k → w5.heap.size < k from fun k e => Nat.lt_of_lt_of_le hz10 (hv11 k e))
            have HL11 := Lib.hid (HL10.out.trans (hB11.mono HL10.out.size))
            clear hB11 B10 HI10 HL10 BU hi11 hv11
            obtain ⟨k0, k1, k2, -, -⟩ := B11.out
            go_wp2_with fail
            refine (same06 nb sp (.slice sa sn sc) (.slice ma sn mc) zs w11 HM.out B11.out.ints HI11.out HZ.out (by rw [← HSN.out]; exact hsn)).mono ?_
            rintro e w12 ⟨rfl, hB12⟩
            have BU2 := Lib.hid (BU1.out.on hB12)
            have B12 := Lib.hid (B11.out.on hB12)
            have HN12 := Lib.hid (HN11.out.kept hB12)
            have HL12 := Lib.hid (HL11.out.trans (hB12.mono HL11.out.size))
            clear hB12 B11 HI11 HL11 HN11 BU1 k0 k1 k2
            obtain ⟨k0, k1, k2, -, -⟩ := BU2.out
            obtain ⟨r0, r1, r2, rg, -⟩ := B12.out
            have rg0 := rg 0
            have rg1 := rg 1
            have rg2 := rg 2
            go_upto_region 18 with (fail)
            obtain ⟨Z, hZ⟩ : ∃ Z, Z = ((w12.setCell ⟨w5.heap.size, 0, none⟩ (.int .i64 nb)).setCell ⟨w5.heap.size, 1, none⟩ (.int .i64 sp)).setCell ⟨w5.heap.size, 2, none⟩ (.slice va (sn + 1) vc) := ⟨_, rfl⟩
            have hvne : (Value.slice va (sn + 1) vc).ownBlock ≠ some w5.heap.size := fun e => by have := HV9.out _ e; omega
            have hmne : (Value.slice na (sn + 1) nc).ownBlock ≠ some w5.heap.size := fun e => by have := HV11.out _ e; omega
            obtain ⟨P1, P2⟩ := B12.out.put (nb' := nb) (sp' := sp) BU2.out.ints hvne hZ
            have hZz : Z.heap.size = w12.heap.size := by rw [hZ]; simp
            have PN : Ints Z.heap.size Z (.slice na (sn + 1) nc) (zs ++ [x]) := by rw [hZz, hZ]; exact ((HN12.out.setCell hmne _).setCell hmne _).setCell hmne _
            rw [← hZ]
            have BZ := Lib.hid P1
            have HLZ := Lib.hid (P2 _ _ HL12.out hw5)
            have HNZ := Lib.hid PN
            have HZZ : Hid (∀ z ∈ zs ++ [x], 0 ≤ z ∧ z < nb) := Lib.hid (fun z hz => by
                rcases List.mem_append.1 hz with h1 | h1
                · exact HZ.out z h1
                · rw [List.mem_singleton.1 h1]; exact hin)
            have HSZ : Hid (sn + 1 = (zs ++ [x]).length) := Lib.hid (by rw [List.length_append, List.length_singleton, ← HSN.out])
            clear hZ P1 P2 PN hZz BU2 B12 HN12 HL12 k0 k1 k2 r0 r1 r2 rg rg0 rg1 rg2 hvne hmne
            obtain ⟨k0, k1, k2, -, -⟩ := BZ.out
            go_wp2_with fail
            refine (same06 nb sp (.slice va (sn + 1) vc) (.slice na (sn + 1) nc) (zs ++ [x]) Z HM.out BZ.out.ints HNZ.out HZZ.out (by rw [← HSZ.out]; omega)).mono ?_
            rintro e w13 ⟨rfl, hB13⟩
            have B13 := Lib.hid (BZ.out.on hB13)
            have HI13 := Lib.hid (HNZ.out.kept hB13)
            have HL13 := Lib.hid (HLZ.out.trans (hB13.mono HLZ.out.size))
            clear hB13 BZ HNZ HLZ k0 k1 k2
            go_wp2_with fail
            exact ⟨⟨j + 1, va, sn + 1, vc, na, nc, zs ++ [x], by go_num, rfl, by omega, HSZ, by omega, HZZ, B13, HI13, HV9, HV11, HL13⟩, by simp [intOf]; omega⟩
          · have hfe : sp = sn := by omega
            have HFE := Lib.hid hfe
            clear hfe
            go_wp2_with fail
            refine (move_full nb sp (.slice sa sn sc) zs x _ B.out.ints hin (by rw [← HSN.out]; exact HFE.out) (by have := HSN.out; omega)).mono ?_
            rintro e w9 ⟨rfl, hB9⟩
            have B9 := Lib.hid (B.out.on hB9)
            have HI9 := Lib.hid (HI.out.kept hB9)
            have HL9 := Lib.hid (HB.out.trans (hB9.mono hzr))
            clear hB9 B HI HB k0 k1 k2
            go_upto_region 13 with (fail)
            have hX : Below w9.heap.size w9 (w9.alloc (.cells #[.int .i64 0, .int .i64 0, .slice none 0 0] 25)) := by go_grown
            obtain ⟨w10, hw10⟩ : ∃ w10, w10 = w9.alloc (.cells #[.int .i64 0, .int .i64 0, .slice none 0 0] 25) := ⟨_, rfl⟩
            have B10 := Lib.hid (B9.out.on hX)
            have HI10 := Lib.hid (HI9.out.kept hX)
            have HL10 := Lib.hid (HL9.out.trans (hX.mono HL9.out.size))
            rw [← hw10] at B10 HI10 HL10 ⊢
            clear hw10 hX B9 HI9 HL9
            go_wp2_with fail
            refine (refMove_full nb sp ma sn mc x w10 hin (by rw [HFE.out]; exact Int.le_refl _)).mono ?_
            rintro e w11 ⟨rfl, hB11⟩
            have B11 := Lib.hid (B10.out.on hB11)
            have HI11 := Lib.hid (HI10.out.kept hB11)
            have HL11 := Lib.hid (HL10.out.trans (hB11.mono HL10.out.size))
            clear hB11 B10 HI10 HL10
            obtain ⟨k0, k1, k2, -, -⟩ := B11.out
            go_wp2_with fail
            refine (same06 nb sp (.slice sa sn sc) (.slice ma sn mc) zs w11 HM.out B11.out.ints HI11.out HZ.out (by rw [← HSN.out]; exact hsn)).mono ?_
            rintro e w12 ⟨rfl, hB12⟩
            have B12 := Lib.hid (B11.out.on hB12)
            have HI12 := Lib.hid (HI11.out.kept hB12)
            have HL12 := Lib.hid (HL11.out.trans (hB12.mono HL11.out.size))
            clear hB12 B11 HI11 HL11 k0 k1 k2
            obtain ⟨k0, k1, k2, -, -⟩ := B12.out
            go_wp2_with fail
            refine (same06 nb sp (.slice sa sn sc) (.slice ma sn mc) zs w12 HM.out B12.out.ints HI12.out HZ.out (by rw [← HSN.out]; exact hsn)).mono ?_
            rintro e w13 ⟨rfl, hB13⟩
            have B13 := Lib.hid (B12.out.on hB13)
            have HI13 := Lib.hid (HI12.out.kept hB13)
            have HL13 := Lib.hid (HL12.out.trans (hB13.mono HL12.out.size))
            clear hB13 B12 HI12 HL12 k0 k1 k2
            go_wp2_with fail
            exact ⟨⟨j + 1, sa, sn, sc, ma, mc, zs, by go_num, rfl, by omega, HSN, hsn, HZ, B13, HI13, HV, HMV, HL13⟩, by simp [intOf]; omega⟩
        · have HIN := Lib.hid hin
          clear hin
          go_wp2_with fail
          refine (move_range nb sp (.slice sa sn sc) zs x _ B.out.ints HIN.out).mono ?_
          rintro e w9 ⟨rfl, hB9⟩
          have B9 := Lib.hid (B.out.on hB9)
          have HI9 := Lib.hid (HI.out.kept hB9)
          have HL9 := Lib.hid (HB.out.trans (hB9.mono hzr))
          clear hB9 B HI HB k0 k1 k2
          go_upto_region 13 with (fail)
          have hX : Below w9.heap.size w9 (w9.alloc (.cells #[.int .i64 0, .int .i64 0, .slice none 0 0] 25)) := by go_grown
          obtain ⟨w10, hw10⟩ : ∃ w10, w10 = w9.alloc (.cells #[.int .i64 0, .int .i64 0, .slice none 0 0] 25) := ⟨_, rfl⟩
          have B10 := Lib.hid (B9.out.on hX)
          have HI10 := Lib.hid (HI9.out.kept hX)
          have HL10 := Lib.hid (HL9.out.trans (hX.mono HL9.out.size))
          rw [← hw10] at B10 HI10 HL10 ⊢
          clear hw10 hX B9 HI9 HL9
          go_wp2_with fail
          refine (refMove_range nb sp ma sn mc x w10 HIN.out).mono ?_
          rintro e w11 ⟨rfl, hB11⟩
          have B11 := Lib.hid (B10.out.on hB11)
          have HI11 := Lib.hid (HI10.out.kept hB11)
          have HL11 := Lib.hid (HL10.out.trans (hB11.mono HL10.out.size))
          clear hB11 B10 HI10 HL10
          obtain ⟨k0, k1, k2, -, -⟩ := B11.out
          go_wp2_with fail
          refine (same06 nb sp (.slice sa sn sc) (.slice ma sn mc) zs w11 HM.out B11.out.ints HI11.out HZ.out (by rw [← HSN.out]; exact hsn)).mono ?_
          rintro e w12 ⟨rfl, hB12⟩
          have B12 := Lib.hid (B11.out.on hB12)
          have HI12 := Lib.hid (HI11.out.kept hB12)
          have HL12 := Lib.hid (HL11.out.trans (hB12.mono HL11.out.size))
          clear hB12 B11 HI11 HL11 k0 k1 k2
          obtain ⟨k0, k1, k2, -, -⟩ := B12.out
          go_wp2_with fail
          refine (same06 nb sp (.slice sa sn sc) (.slice ma sn mc) zs w12 HM.out B12.out.ints HI12.out HZ.out (by rw [← HSN.out]; exact hsn)).mono ?_
          rintro e w13 ⟨rfl, hB13⟩
          have B13 := Lib.hid (B12.out.on hB13)
          have HI13 := Lib.hid (HI12.out.kept hB13)
          have HL13 := Lib.hid (HL12.out.trans (hB13.mono HL12.out.size))
          clear hB13 B12 HI12 HL12 k0 k1 k2
          go_wp2_with fail
          exact ⟨⟨j + 1, sa, sn, sc, ma, mc, zs, by go_num, rfl, by omega, HSN, hsn, HZ, B13, HI13, HV, HMV, HL13⟩, by simp [intOf]; omega⟩
      · obtain rfl : j = m := by omega
        go_wp2_with fail
        go_ret
        exact ⟨rfl, HB.out⟩

end Go.Proofs.Ytblleinahlaohaa
