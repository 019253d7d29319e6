/-
  The walk of the document's Parse of nodes.
-/
import Derived.Test.YtlmlmkeomlehmaaNrp
namespace Go.Proofs.Ytlmlmkeomlehmaa
open Go.RowKit
attribute [local go_sem ↓] Go.wp_at_zero Go.wp_at_succ

set_option maxRecDepth 100000 in
set_option maxHeartbeats 8000000 in
theorem refNodeParse_any (s0 : List UInt8) (w : World) (hl : s0.length ≤ 10000) :
    Calls Try.prog 23 #[.string (S s0)] w fun e w' => NodeRes s0 w' (.int .i64) e ∧ Below w.heap.size w w' := by
  obtain ⟨i0, hi, iz0, iz1, iz2⟩ := info_parts infoC2
  cases s0 with
  | nil =>
    have HNO := Lib.hid (show ∀ cs' us', NodeOk cs' us' → [] ≠ textN cs' us' from fun cs' us' h' e => by simp [textN] at e)
    go_enter Try.func23, Try.ntmps23
    go_upto_region 2 with (fail)
    obtain ⟨W, hW⟩ : ∃ W, W = (w.alloc (.cells #[.slice none 0 0, .slice none 0 0] 35)).alloc (.cells #[.slice none 0 0, .slice none 0 0] 35) := ⟨_, rfl⟩
    have HL := Lib.hid (show Below w.heap.size w W by rw [hW]; go_grown)
    have q0 : W.cell? ⟨w.heap.size, 0, none⟩ = some (.slice none 0 0) := by rw [hW]; refine cell_past _ ?_; rw [World.cell?_alloc_at _ _ _ _ rfl]; rfl
    have q1 : W.cell? ⟨w.heap.size, 1, none⟩ = some (.slice none 0 0) := by rw [hW]; refine cell_past _ ?_; rw [World.cell?_alloc_at _ _ _ _ rfl]; rfl
    have z0 : W.cell? ⟨w.heap.size + 1, 0, none⟩ = some (.slice none 0 0) := by rw [hW, World.cell?_alloc_at _ _ _ _ (by simp)]; rfl
    have z1 : W.cell? ⟨w.heap.size + 1, 1, none⟩ = some (.slice none 0 0) := by rw [hW, World.cell?_alloc_at _ _ _ _ (by simp)]; rfl
    have f0 : W.frozen? ⟨w.heap.size, 0, none⟩ = false := by rw [hW]; simp [go_sem]
    have f1 : W.frozen? ⟨w.heap.size, 1, none⟩ = false := by rw [hW]; simp [go_sem]
    rw [← hW]
    clear hW
    go_wp2_with fail
    obtain ⟨ZZ, hZZ⟩ : ∃ ZZ, ZZ = (W.setCell ⟨w.heap.size, 0, none⟩ (.slice none 0 0)).setCell ⟨w.heap.size, 1, none⟩ (.slice none 0 0) := ⟨_, rfl⟩
    obtain ⟨s0', s1', s5'⟩ := set2 _ _ q0 q1 hZZ
    rw [← hZZ]
    exact bodyPost_ret (v := .tuple #[.agg #[.slice none 0 0, .slice none 0 0], .int .i64 4]) (by simp [results, Try.results23, go_sem, s0', s1']) rfl ⟨.no HNO.out rfl, s5' _ _ HL.out (Nat.le_refl _)⟩
  | cons b r0 =>
    obtain ⟨k, hk⟩ : ∃ k, k = b.toNat := ⟨_, rfl⟩
    have hk' : k < 256 := by rw [hk]; exact b.toNat_lt
    have hsk : b :: r0 = UInt8.ofNat k :: r0 := by rw [hk]; simp
    have hr0 : r0.length ≤ 10000 := by rw [List.length_cons] at hl; omega
    have hsz : (S (b :: r0)).size = r0.length + 1 := by rw [S_size]; rfl
    have hs1 := fun w => rest_str (b :: r0) 1 (by simp) w
    rw [show (b :: r0).drop 1 = r0 from rfl] at hs1
    have HSK := Lib.hid hsk
    clear hsk
    go_enter Try.func23, Try.ntmps23
    go_upto_region 5 with (fail)
    obtain ⟨W4, hW4⟩ : ∃ W4, W4 = ((w.alloc (.cells #[.slice none 0 0, .slice none 0 0] 35)).alloc (.cells #[.slice none 0 0, .slice none 0 0] 35)).alloc (.cells #[.slice none 0 0, .slice none 0 0] 35) := ⟨_, rfl⟩
    have HNIL := Lib.hid (show W4.cell? ⟨w.heap.size + 1, 0, none⟩ = some (.slice none 0 0) ∧ W4.cell? ⟨w.heap.size + 1, 1, none⟩ = some (.slice none 0 0) by
      rw [hW4]; refine ⟨cell_past _ ?_, cell_past _ ?_⟩ <;> (rw [World.cell?_alloc_at _ _ _ _ (by simp)]; rfl))
    have HP := Lib.hid (show ParAt 50 w W4 w.heap.size (w.heap.size + 1 + 1) [] none 0 from
      ⟨by rw [hW4, World.cell?_alloc_at _ _ _ _ (by simp)]; rfl, by rw [hW4, World.cell?_alloc_at _ _ _ _ (by simp)]; rfl, fun o => by rw [hW4]; exact World.frozen?_alloc_at _ _ _ _ (by simp), by rw [hW4]; refine cell_past _ (cell_past _ ?_); rw [World.cell?_alloc_at _ _ _ _ rfl]; rfl, by rw [hW4]; refine cell_past _ (cell_past _ ?_); rw [World.cell?_alloc_at _ _ _ _ rfl]; rfl, fun o => by rw [hW4]; simp [go_sem], World.ownsRow_nil _ _ _ _, by rw [hW4]; go_grown, by omega⟩)
    rw [← hW4]
    clear hW4
    go_wp2_with fail
    rw [← hk]
    clear hk hsz hs1
    go_loopw [0, 7] (fun s i wr => ∃ (j : Nat) (r : List UInt8) (cs : List Chd) (a : Option Addr) (y : Nat), s = .string (S r) ∧ i = .int .i64 j ∧ j ≤ k ∧ cs.length = j ∧ r.length ≤ 10000 ∧ Hid (∀ c ∈ cs, ChdIs c) ∧ Hid (r0 = kidsT cs ++ r) ∧ Hid (wr.cell? ⟨w.heap.size + 1, 0, none⟩ = some (.slice none 0 0) ∧ wr.cell? ⟨w.heap.size + 1, 1, none⟩ = some (.slice none 0 0)) ∧ Hid (ParAt 50 w wr w.heap.size (w.heap.size + 1 + 1) cs a y)) (fun _ i _ => k - (intOf i).toNat)
    case atStart => exact ⟨0, r0, [], none, 0, rfl, rfl, Nat.zero_le _, rfl, hr0, Lib.hid (fun c hc => by simp at hc), Lib.hid rfl, HNIL, HP⟩
    case round =>
      obtain ⟨j, r, cs, a, y, rfl, rfl, hj, hcj, hrl, HCS, HRR, HNL, HP⟩ := hrel
      have hj0 : (0 : Int) ≤ (j : Int) := Int.natCast_nonneg _
      have HCJ := Lib.hid hcj
      clear hcj
      by_cases hjk : j < k
      · have hj1 : (j : Int) < (k : Int) := by omega
        have hsv : splitV r = .tuple #[.string (S (splitL r).1), .string (S (splitL r).2.1), .bool (splitL r).2.2] := rfl
        have HSV := Lib.hid (fun w => refSplit_any r (by omega) w)
        rw [hsv] at HSV
        have HOF := Lib.hid (@splitL_of r)
        have HNS := Lib.hid (@splitL_no r)
        have htl : (splitL r).2.1.length ≤ 10000 := by have := (splitL_len r).1; omega
        clear hsv
        generalize (splitL r).1 = low at *
        generalize (splitL r).2.1 = rest at *
        generalize (splitL r).2.2 = okb at *
        have hlw := HP.out.ltN
        go_wp2_with fail
        refine (HSV.out wr).mono ?_
        rintro e w2 ⟨rfl, hB2⟩
        have HP2 := Lib.hid (HP.out.on hB2)
        have HNL2 := Lib.hid (And.intro (kept_cell hB2 HNL.out.1) (kept_cell hB2 HNL.out.2))
        have hlw2 := HP2.out.ltN
        clear hB2 HP HNL HSV hlw
        go_wp2_with fail
        have hX3 : Below w2.heap.size w2 (w2.alloc (.cells #[.int .i64 4, .int .i64 8, .int .i64 4] 3)) := by go_grown
        by_cases h16 : 16 ≤ rest.length
        · obtain ⟨pa, pg, ps, rr, hpa, hpg, hps, hrest⟩ := as_ptr rest h16
          rw [hrest]
          have hrr : rr.length ≤ 10000 := by rw [hrest, List.length_append] at htl; omega
          have HRE := Lib.hid hrest
          refine (refRead_ok (some ⟨w2.heap.size, 0, none⟩) 3 [(4, pa), (8, pg), (4, ps)] rr _ (intsW_new w2 #[.int .i64 4, .int .i64 8, .int .i64 4] 3 (0, 0) [(4, pa), (8, pg), (4, ps)] rfl) (ptr_wide pa pg ps) (ptr_fit hpa hpg hps) (by simp) (by omega)).mono ?_
          rintro e w3 ⟨⟨na, nc, rfl, hn⟩, hB3⟩
          obtain ⟨nb, no, rfl, hnb, n0, n1, n2⟩ := numsW_three hn
          have hX := hX3.trans (hB3.mono hX3.size)
          have HP3 := Lib.hid (HP2.out.on hX)
          have HNL3 := Lib.hid (And.intro (kept_cell hX HNL2.out.1) (kept_cell hX HNL2.out.2))
          rw [← hrest]
          clear hX hX3 hB3 HP2 HNL2 hn hrest htl hlw2 h16
          cases okb with
          | true =>
            obtain ⟨hr, hll⟩ := HOF.out rfl
            have hci : ChdIs ⟨low, (pa : Int), pg, ps⟩ := ⟨hll, ⟨by show (0 : Int) ≤ (pa : Int); omega, by show (pa : Int) < 4294967296; omega⟩, hpg, hps⟩
            have hrc : r = chT ⟨low, (pa : Int), pg, ps⟩ ++ rr := by rw [hr, HRE.out]; unfold chT; simp
            have HCS' := Lib.hid (show ∀ x ∈ cs ++ [⟨low, (pa : Int), pg, ps⟩], ChdIs x from fun x hx => (List.mem_append.1 hx).elim (HCS.out x) (fun e => by rw [List.mem_singleton.1 e]; exact hci))
            have HRR' := Lib.hid (show r0 = kidsT (cs ++ [⟨low, (pa : Int), pg, ps⟩]) ++ rr by rw [HRR.out, hrc, kidsT_app]; simp [kidsT])
            have HCJ' := Lib.hid (show (cs ++ [(⟨low, (pa : Int), pg, ps⟩ : Chd)]).length = j + 1 by rw [List.length_append, List.length_singleton, HCJ.out])
            have HCL := Lib.hid (show cellsC cs ++ [.string (S low), .int .i64 (pa : Int), .int .u64 pg, .int .u32 ps] = cellsC (cs ++ [⟨low, (pa : Int), pg, ps⟩]) by rw [cellsC_append, cellsC_one]; rfl)
            have HLN := Lib.hid (show (cs ++ [(⟨low, (pa : Int), pg, ps⟩ : Chd)]).length = cs.length + 1 by rw [List.length_append, List.length_singleton])
            generalize cs ++ [(⟨low, (pa : Int), pg, ps⟩ : Chd)] = cs1 at *
            have hwa : IntKind.i64.wrap (pa : Int) = (pa : Int) := IntWalk.i64_in _ (by omega)
            have hws : IntKind.u32.wrap (ps : Int) = (ps : Int) := by rw [IntKind.wrap_u32]; omega
            have hcl : cs.length ≤ 255 := by rw [HCJ.out]; omega
            clear hr hll hci hrc HOF HNS HCS HRR
            go_upto_region 14 with (fail)
            have p0 := HP3.out.c0
            have pf := HP3.out.fz 0
            have hnl := HP3.out.ltN
            have HP4 := Lib.hid (HP3.out.on (show Below w3.heap.size w3 ((w3.alloc (.cells #[.string (S low), .int .i64 pa, .int .u64 pg, .int .u32 ps] 50)).drew) from below_drew' ((Below.refl _ _).alloc (Nat.le_refl _) _)))
            have HNL4 := Lib.hid (And.intro (cell_drew (cell_past (.cells #[.string (S low), .int .i64 pa, .int .u64 pg, .int .u32 ps] 50) HNL3.out.1)) (cell_drew (cell_past (.cells #[.string (S low), .int .i64 pa, .int .u64 pg, .int .u32 ps] 50) HNL3.out.2)))
            go_region_law (first | (refine step_append_own (by rfl) _ _ 32 (by rfl) (w.heap.size + 1 + 1 + 1) 50 i0 (.agg #[.string ByteArray.empty, .int .i64 0, .int .u64 0, .int .u32 0]) 4 40 Try.underlying32 hi iz0 iz1 iz2 rfl (by decide) _ cs.length _ (by rfl) HP4.out.own ⟨w3.heap.size, 0, none⟩ 1 1 [.string (S low), .int .i64 pa, .int .u64 pg, .int .u32 ps] (by rfl) (by rfl) (fun j v hv => cell_drew (cell_four_at w3 w3.heap.size rfl _ _ _ _ _ j v hv)) (kid_oneCell _ _ _ _) (by unfold maxLen; omega) (by omega) (by simp; omega) ?_; intro vz wz hownwz hgrowwz hbz; rw [HCL.out] at hownwz; obtain ⟨ac, yc, rfl⟩ := own_form hownwz; have hNe : some (w.heap.size + 1 + 1) ≠ (Value.slice a cs.length y).ownBlock := (fun e => by have := (HP4.out.own.lt _ e.symm).1; omega); have hNe1 : some (w.heap.size + 1) ≠ (Value.slice a cs.length y).ownBlock := (fun e => by have := (HP4.out.own.lt _ e.symm).1; omega); have z0 := hgrowwz.cell HP4.out.c0 hNe; have zf := (World.frozen?_of_block (hgrowwz.block (w.heap.size + 1 + 1) HP4.out.ltN hNe)).trans (HP4.out.fz 0); have HGR := Lib.hid (HP4.out.grown (cs' := cs1) (a' := ac) (y' := yc) hgrowwz (by rw [HLN.out]; exact hownwz)); have HNL5 := Lib.hid (And.intro (hgrowwz.cell HNL4.out.1 hNe1) (hgrowwz.cell HNL4.out.2 hNe1)); clear hownwz hgrowwz hbz hNe hNe1))
            all_goals
              go_wp2_with fail
              rw [HLN.out] at HGR
              exact ⟨⟨j + 1, rr, cs1, ac, yc, rfl, by first | rfl | go_num, by omega, HCJ'.out, hrr, HCS', HRR', Lib.hid (And.intro ((World.cell?_setCell_other _ _ _ _ (addr_ne (Or.inl (by omega)))).trans HNL5.out.1) ((World.cell?_setCell_other _ _ _ _ (addr_ne (Or.inl (by omega)))).trans HNL5.out.2)), HGR⟩, by simp [intOf]; omega⟩
          | false =>
            have HNO := Lib.hid (show ∀ cs' us', NodeOk cs' us' → b :: r0 ≠ textN cs' us' from fun cs' us' h' e => by
              rw [HSK.out, HRR.out] at e
              obtain ⟨c, t, h1, h2⟩ := textN_more hk' (by rw [HCJ.out]; exact hjk) HCS.out h' e
              exact HNS.out rfl c t h1.is h2)
            have q0 := HP3.out.r0
            have q1 := HP3.out.r1
            have qf0 := HP3.out.rz 0
            have qf1 := HP3.out.rz 1
            obtain ⟨z0, z1⟩ := HNL3.out
            go_wp2_with fail
            obtain ⟨ZZ, hZZ⟩ : ∃ ZZ, ZZ = (w3.setCell ⟨w.heap.size, 0, none⟩ (.slice none 0 0)).setCell ⟨w.heap.size, 1, none⟩ (.slice none 0 0) := ⟨_, rfl⟩
            obtain ⟨s0', s1', s5'⟩ := set2 _ _ q0 q1 hZZ
            rw [← hZZ]
            exact bodyPost_ret (v := .tuple #[.agg #[.slice none 0 0, .slice none 0 0], .int .i64 4]) (by simp [results, Try.results23, go_sem, s0', s1']) rfl ⟨.no HNO.out rfl, s5' _ _ HP3.out.below (Nat.le_refl _)⟩
        · have HNO := Lib.hid (show ∀ cs' us', NodeOk cs' us' → b :: r0 ≠ textN cs' us' from fun cs' us' h' e => by
            rw [HSK.out, HRR.out] at e
            obtain ⟨c, t, h1, h2⟩ := textN_more hk' (by rw [HCJ.out]; exact hjk) HCS.out h' e
            cases okb with
            | true =>
              obtain ⟨h3, h4⟩ := HOF.out rfl
              rw [h3] at h2
              unfold chT at h2
              rw [List.append_assoc] at h2
              have e1 := splitL_join low rest h4
              rw [h2, splitL_join _ _ h1.is.low] at e1
              simp only [Prod.mk.injEq, and_true] at e1
              rw [← e1.2, List.length_append, ptrL_len] at h16
              omega
            | false => exact HNS.out rfl c t h1.is h2)
          refine (refRead_short (some ⟨w2.heap.size, 0, none⟩) 3 [(4, 0), (8, 0), (4, 0)] rest _ (intsW_new w2 #[.int .i64 4, .int .i64 8, .int .i64 4] 3 (0, 0) [(4, 0), (8, 0), (4, 0)] rfl) (ptr_wide 0 0 0) (by simp) (by simp [sumW]; omega)).mono ?_
          rintro e w3 ⟨rfl, hB3⟩
          have hX := hX3.trans (hB3.mono hX3.size)
          have HP3 := Lib.hid (HP2.out.on hX)
          obtain ⟨z0, z1⟩ := (And.intro (kept_cell hX HNL2.out.1) (kept_cell hX HNL2.out.2))
          have q0 := HP3.out.r0
          have q1 := HP3.out.r1
          have qf0 := HP3.out.rz 0
          have qf1 := HP3.out.rz 1
          clear hX hX3 hB3 HP2 HNL2 HOF HNS
          cases okb
          all_goals
            go_wp2_with fail
            obtain ⟨ZZ, hZZ⟩ : ∃ ZZ, ZZ = (w3.setCell ⟨w.heap.size, 0, none⟩ (.slice none 0 0)).setCell ⟨w.heap.size, 1, none⟩ (.slice none 0 0) := ⟨_, rfl⟩
            obtain ⟨s0', s1', s5'⟩ := set2 _ _ q0 q1 hZZ
            rw [← hZZ]
            exact bodyPost_ret (v := .tuple #[.agg #[.slice none 0 0, .slice none 0 0], .int .i64 4]) (by simp [results, Try.results23, go_sem, s0', s1']) rfl ⟨.no HNO.out rfl, s5' _ _ HP3.out.below (Nat.le_refl _)⟩
      · obtain rfl : j = k := by omega
        have p0 := HP.out.c0
        have hpu := parseU_two r
        have hpl := (parseU_all r).1
        have HPT := Lib.hid (show ∀ l, (∀ u ∈ l, Okay u) → Rising Upd.key l → parseU (textU l) = (l, 0) from fun l h k => parseU_text h k)
        obtain ⟨P, hP⟩ : ∃ P, P = parseU r := ⟨_, rfl⟩
        have HBP := Lib.hid (fun w => refBufParse_any r (by omega) w)
        rw [← hP] at HBP hpu hpl
        have HPB := Lib.hid hP
        clear hP
        obtain ⟨us, pe⟩ := P
        dsimp only at hpu hpl
        go_wp2_with fail
        refine (HBP.out wr).mono ?_
        rintro e w7 ⟨⟨ba, bc, rfl, hbo⟩, hB7⟩
        dsimp only at hbo ⊢
        have HP7 := Lib.hid (HP.out.on hB7)
        have hzr := HP.out.ltN
        have HBO7 := Lib.hid (own_base hbo (show w.heap.size + 1 + 1 + 1 ≤ wr.heap.size by omega))
        have HNL7 := Lib.hid (And.intro (kept_cell hB7 HNL.out.1) (kept_cell hB7 HNL.out.2))
        clear hB7 hbo HP p0 HBP HNL
        by_cases hpe : pe = 0
        · subst hpe
          obtain ⟨hru, hok, hris⟩ := parseU_back HPB.out.symm
          have HRU := Lib.hid hru
          have HOK := Lib.hid hok
          have HRIS := Lib.hid hris
          clear hru hok hris hpu
          have p1 := HP7.out.c1
          have pf1 := HP7.out.fz 1
          go_upto_region 20 with (fail)
          obtain ⟨W8, hW8⟩ : ∃ W8, W8 = w7.setCell ⟨w.heap.size + 1 + 1, 1, none⟩ (.slice ba us.length bc) := ⟨_, rfl⟩
          have HN8 := Lib.hid (show W8.cell? ⟨w.heap.size + 1 + 1, 0, none⟩ = some (.slice a cs.length y) ∧ W8.cell? ⟨w.heap.size + 1 + 1, 1, none⟩ = some (.slice ba us.length bc) by
            rw [hW8]; exact ⟨(World.cell?_setCell_other _ _ _ _ (addr_ne (Or.inr (by decide)))).trans HP7.out.c0, World.cell?_setCell_same _ _ _ p1⟩)
          have HR8 := Lib.hid (show W8.cell? ⟨w.heap.size, 0, none⟩ = some (.slice none 0 0) ∧ W8.cell? ⟨w.heap.size, 1, none⟩ = some (.slice none 0 0) ∧ ∀ o, W8.frozen? ⟨w.heap.size, o, none⟩ = false by
            rw [hW8]; exact ⟨(World.cell?_setCell_other _ _ _ _ (addr_ne (Or.inl (by omega)))).trans HP7.out.r0, (World.cell?_setCell_other _ _ _ _ (addr_ne (Or.inl (by omega)))).trans HP7.out.r1, fun o => by rw [World.frozen?_setCell]; exact HP7.out.rz o⟩)
          have HNL8 := Lib.hid (show W8.cell? ⟨w.heap.size + 1, 0, none⟩ = some (.slice none 0 0) ∧ W8.cell? ⟨w.heap.size + 1, 1, none⟩ = some (.slice none 0 0) by
            rw [hW8]; exact ⟨(World.cell?_setCell_other _ _ _ _ (addr_ne (Or.inl (by omega)))).trans HNL7.out.1, (World.cell?_setCell_other _ _ _ _ (addr_ne (Or.inl (by omega)))).trans HNL7.out.2⟩)
          have HO8 := Lib.hid (show W8.ownsRow (w.heap.size + 1 + 1 + 1) 50 4 (.slice a cs.length y) cs.length (cellsC cs) by
            rw [hW8]; exact own_low HP7.out.own (by omega) _)
          have HU8 := Lib.hid (show W8.ownsRow (w.heap.size + 1 + 1 + 1) 113 4 (.slice ba us.length bc) us.length (cellsU us) by
            rw [hW8]; exact own_low HBO7.out (by omega) _)
          have HL8 := Lib.hid (show Below w.heap.size w W8 by rw [hW8]; exact HP7.out.below.setCell (p := ⟨w.heap.size + 1 + 1, 1, none⟩) (by show w.heap.size ≤ w.heap.size + 1 + 1; omega) _)
          rw [← hW8]
          clear hW8 HP7 HBO7 p1 pf1 HNL7
          obtain ⟨q0, q1, qz⟩ := HR8.out
          have qf0 := qz 0
          have qf1 := qz 1
          obtain ⟨d0, d1⟩ := HN8.out
          have HND := Lib.hid (NodeAt.mk' (slC_row HO8.out).2 (slU_row HU8.out).2)
          have HIN := Lib.hid (show NodeIn cs us from ⟨by rw [HCJ.out]; omega, by omega, fun c hc => ⟨⟨by have := (HCS.out c hc).addr; omega, by have := (HCS.out c hc).addr; omega⟩, (HCS.out c hc).gen, (HCS.out c hc).sum⟩, fun c hc => by have := (HCS.out c hc).low; omega, fun u hu => (HOK.out u hu).wf⟩)
          have HRT := Lib.hid (fun w' h => refRight_any (.agg #[.slice a cs.length y, .slice ba us.length bc]) cs us w' h HIN.out)
          go_wp2_with fail
          refine (HRT.out W8 HND.out).mono ?_
          rintro e w9 ⟨⟨rb, rfl, hrb⟩, hB9⟩
          have HL9 := Lib.hid (HL8.out.trans (hB9.mono HL8.out.size))
          have HO9 := Lib.hid (own_below HO8.out hB9)
          have HU9 := Lib.hid (own_below HU8.out hB9)
          have e0 := kept_cell hB9 d0
          have e1 := kept_cell hB9 d1
          have hlw8 := World.block_lt_of_cell? W8 _ q0
          have q0 := kept_cell hB9 q0
          have q1 := kept_cell hB9 q1
          have qf0 := ((bcell hB9).2 w.heap.size 0 hlw8).trans qf0
          have qf1 := ((bcell hB9).2 w.heap.size 1 hlw8).trans qf1
          have z0 := kept_cell hB9 HNL8.out.1
          have z1 := kept_cell hB9 HNL8.out.2
          clear HRT HIN HND HO8 HU8 HL8 HR8 HN8 d0 d1 hB9 qz HNL8
          cases rb with
          | true =>
            have HOKN := Lib.hid (hrb.1 rfl).node
            have HSS := Lib.hid (show b :: r0 = textN cs us by rw [HSK.out, HRR.out, HRU.out]; unfold textN; rw [HCJ.out])
            clear hrb
            go_wp2_with fail
            obtain ⟨ZZ, hZZ⟩ : ∃ ZZ, ZZ = (w9.setCell ⟨w.heap.size, 0, none⟩ (.slice a cs.length y)).setCell ⟨w.heap.size, 1, none⟩ (.slice ba us.length bc) := ⟨_, rfl⟩
            obtain ⟨s0', s1', s5'⟩ := set2 _ _ q0 q1 hZZ
            have hoz : ZZ.ownsRow (w.heap.size + 1 + 1 + 1) 50 4 (.slice a cs.length y) cs.length (cellsC cs) := by
              rw [hZZ]; exact own_low (own_low HO9.out (by omega) _) (by omega) _
            have huz : ZZ.ownsRow (w.heap.size + 1 + 1 + 1) 113 4 (.slice ba us.length bc) us.length (cellsU us) := by
              rw [hZZ]; exact own_low (own_low HU9.out (by omega) _) (by omega) _
            rw [← hZZ]
            exact bodyPost_ret (v := .tuple #[.agg #[.slice a cs.length y, .slice ba us.length bc], .int .i64 0]) (by simp [results, Try.results23, go_sem, s0', s1']) rfl ⟨.yes cs us _ HSS.out HOKN.out rfl (NodeAt.mk' (slC_row hoz).2 (slU_row huz).2), s5' _ _ HL9.out (Nat.le_refl _)⟩
          | false =>
            have HNO := Lib.hid (show ∀ cs' us', NodeOk cs' us' → b :: r0 ≠ textN cs' us' from fun cs' us' h' e => by
              rw [HSK.out, HRR.out] at e
              obtain ⟨h1, h2⟩ := textN_read hk' HCJ.out HCS.out h' e
              subst h1
              have h3 := HPT.out us' h'.ok h'.rising
              rw [← h2, ← HPB.out] at h3
              simp only [Prod.mk.injEq, and_true] at h3
              subst h3
              exact absurd (hrb.2 ⟨h'.right, h'.rising⟩) (by simp))
            clear hrb
            go_wp2_with fail
            obtain ⟨ZZ, hZZ⟩ : ∃ ZZ, ZZ = (w9.setCell ⟨w.heap.size, 0, none⟩ (.slice none 0 0)).setCell ⟨w.heap.size, 1, none⟩ (.slice none 0 0) := ⟨_, rfl⟩
            obtain ⟨s0', s1', s5'⟩ := set2 _ _ q0 q1 hZZ
            rw [← hZZ]
            exact bodyPost_ret (v := .tuple #[.agg #[.slice none 0 0, .slice none 0 0], .int .i64 4]) (by simp [results, Try.results23, go_sem, s0', s1']) rfl ⟨.no HNO.out rfl, s5' _ _ HL9.out (Nat.le_refl _)⟩
        · have hpe4 : us = [] ∧ pe = 4 := by
            rcases hpu with h | h
            · exact absurd h hpe
            · simpa using h
          obtain ⟨rfl, rfl⟩ := hpe4
          have HNO := Lib.hid (show ∀ cs' us', NodeOk cs' us' → b :: r0 ≠ textN cs' us' from fun cs' us' h' e => by
            rw [HSK.out, HRR.out] at e
            obtain ⟨h1, h2⟩ := textN_read hk' HCJ.out HCS.out h' e
            have h3 := HPT.out us' h'.ok h'.rising
            rw [← h2, ← HPB.out] at h3
            simp at h3)
          have q0 := HP7.out.r0
          have q1 := HP7.out.r1
          have qf0 := HP7.out.rz 0
          have qf1 := HP7.out.rz 1
          obtain ⟨z0, z1⟩ := HNL7.out
          clear hpu hpe
          go_wp2_with fail
          obtain ⟨ZZ, hZZ⟩ : ∃ ZZ, ZZ = (w7.setCell ⟨w.heap.size, 0, none⟩ (.slice none 0 0)).setCell ⟨w.heap.size, 1, none⟩ (.slice none 0 0) := ⟨_, rfl⟩
          obtain ⟨s0', s1', s5'⟩ := set2 _ _ q0 q1 hZZ
          rw [← hZZ]
          exact bodyPost_ret (v := .tuple #[.agg #[.slice none 0 0, .slice none 0 0], .int .i64 4]) (by simp [results, Try.results23, go_sem, s0', s1']) rfl ⟨.no HNO.out rfl, s5' _ _ HP7.out.below (Nat.le_refl _)⟩

end Go.Proofs.Ytlmlmkeomlehmaa
