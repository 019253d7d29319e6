/-
  The walks of the document's Write, Right and Text of nodes.
-/
import Derived.Test.YtlmlmkeomlehmaaNpw
namespace Go.Proofs.Ytlmlmkeomlehmaa
open Go.RowKit
attribute [local go_sem ↓] Go.wp_at_zero Go.wp_at_succ

theorem wtext_app (a b : List (Nat × Nat)) : wtext (a ++ b) = wtext a ++ wtext b := by unfold wtext; rw [List.flatMap_append]
theorem numIntsW {w : World} {ao : Option Addr} {ps : List (Nat × Nat)} (h : IntsW w ao ps) (i : Nat) (hi : i < ps.length) : ∃ b off, ao = some ⟨b, off, none⟩ ∧ b < w.heap.size ∧ w.cell? ⟨b, off + i, none⟩ = some (.int .i64 ps[i].1) := by
  obtain ⟨b, off, rfl, hb, hc⟩ := h.at (by omega)
  have := hc i hi 0 _ rfl
  rw [Nat.mul_one, Nat.add_zero] at this
  exact ⟨b, off, rfl, hb, this⟩
theorem numNumsW {w : World} {ao : Option Addr} {ps : List (Nat × Nat)} (h : NumsW w ao ps) (i : Nat) (hi : i < ps.length) : ∃ b off, ao = some ⟨b, off, none⟩ ∧ b < w.heap.size ∧ w.cell? ⟨b, off + i, none⟩ = some (.int .u64 ps[i].2) := by
  obtain ⟨b, off, rfl, hb, hc⟩ := h.at (by omega)
  have := hc i hi 0 _ rfl
  rw [Nat.mul_one, Nat.add_zero] at this
  exact ⟨b, off, rfl, hb, this⟩
set_option maxRecDepth 100000 in
set_option maxHeartbeats 4000000 in
theorem refWrite_fit (aw an : Option Addr) (cw cn : Nat) (ps : List (Nat × Nat)) (w : World) (hsw : IntsW w aw ps) (hsn : NumsW w an ps) (hw : Wide ps) (hf : Fit ps) (hl : ps.length ≤ 1000) (hn : ∀ p ∈ ps, p.2 < 18446744073709551616) :
    Calls Try.prog 58 #[.slice aw ps.length cw, .slice an ps.length cn] w fun e w' => e = .returned (.tuple #[.string (S (wtext ps)), .bool true]) ∧ Below w.heap.size w w' := by
  have HW := Lib.hid hsw
  have HN := Lib.hid hsn
  have hsl := sumW_le hw
  have hsum : (wtext ps).length ≤ 8000 := by rw [wtext_len]; omega
  clear hsw hsn hsl
  go_enter Try.func58, Try.ntmps58
  go_wp2_with fail
  go_loopw [6, 7] (fun s i wr => ∃ j : Nat, i = .int .i64 j ∧ s = .string (S (wtext (ps.take j))) ∧ j ≤ ps.length ∧ Hid (Below w.heap.size w wr)) (fun _ i _ => ps.length - (intOf i).toNat)
  case atStart => exact ⟨0, rfl, by simp [wtext]; rfl, Nat.zero_le _, Lib.hid (Below.refl _ _)⟩
  case round =>
    obtain ⟨j, rfl, rfl, hj, HB⟩ := hrel
    have hj0 : (0 : Int) ≤ (j : Int) := Int.natCast_nonneg _
    by_cases hjl : j < ps.length
    · have hj1 : (j : Int) < (ps.length : Int) := by omega
      obtain ⟨b1, o1, rfl, hb1, t1⟩ := numIntsW HW.out j hjl
      obtain ⟨b2, o2, rfl, hb2, t2⟩ := numNumsW HN.out j hjl
      have q1 := (cell_below HB.out hb1 _).trans t1
      have q2 := (cell_below HB.out hb2 _).trans t2
      have hpw := hw _ (List.getElem_mem hjl)
      have hpf := hf _ (List.getElem_mem hjl)
      have hpn := hn _ (List.getElem_mem hjl)
      have HST := Lib.hid (show wtext (ps.take (j + 1)) = wtext (ps.take j) ++ le ps[j].2 ps[j].1 by rw [List.take_succ_eq_append_getElem hjl, wtext_app]; simp [wtext])
      have hlen : (wtext (ps.take j)).length ≤ 8000 := by
        have := congrArg List.length (show wtext ps = wtext (ps.take j) ++ wtext (ps.drop j) by rw [← wtext_app, List.take_append_drop])
        rw [List.length_append] at this
        omega
      clear t1 t2
      generalize ps[j] = p at *
      obtain ⟨pw, pn⟩ := p
      dsimp only at q1 q2 hpw hpf hpn HST
      have HPT := Lib.hid (fun w => put_any pn hpn pw hpw.1 hpw.2 w)
      rw [decide_eq_true (show pn / 256 ^ pw = 0 from Nat.div_eq_of_lt hpf)] at HPT
      have hll : (le pn pw).length ≤ 8 := by rw [le_length]; exact hpw.2
      generalize le pn pw = L at *
      generalize wtext (ps.take j) = A at *
      clear hpf
      go_upto_region 7 with (fail)
      have d1 := cell_drew q1
      have d2 := cell_drew q2
      have HD := Lib.hid (below_drew' HB.out)
      go_region_with ((go_at_call 90; go_must (refine (HPT.out _).mono ?_; rintro e w6 ⟨rfl, hB6⟩; have HL6 := Lib.hid (HD.out.trans (hB6.mono HD.out.size)); clear hB6)))
      all_goals
        go_wp2_with fail
        exact ⟨⟨j + 1, by go_num, by rw [HST.out, ← S_append], by omega, HL6⟩, by simp [intOf]; omega⟩
    · obtain rfl : j = ps.length := by omega
      rw [List.take_length]
      go_wp2_with fail
      go_ret2
      exact ⟨rfl, HB.out⟩

/-- A node that the document's Right tells may be: as the program's, and the messages rise. -/
structure RightR (cs : List Chd) (us : List Upd) : Prop where
  n : RightN cs us
  rising : Rising Upd.key us
theorem RightR.node {cs : List Chd} {us : List Upd} (h : RightR cs us) : NodeOk cs us := h.n.node h.rising

set_option maxRecDepth 100000 in
set_option maxHeartbeats 8000000 in
theorem refRight_any (v : Value) (cs : List Chd) (us : List Upd) (w : World) (h : NodeAt w v cs us) (hi : NodeIn cs us) :
    Calls Try.prog 17 #[v] w fun e w' => TellsB e (RightR cs us) ∧ Below w.heap.size w w' := by
  have HIN := Lib.hid hi
  obtain ⟨a, b, x, y, rfl, h1, h2⟩ := h
  have hs := h1.at
  obtain ⟨ao, c, e, hsu, -⟩ := id h2
  simp only [Value.slice.injEq] at e
  obtain ⟨rfl, -, rfl⟩ := e
  have HSU := Lib.hid hsu
  have hlc := hi.lenC
  have hlu := hi.lenU
  have HRT := Lib.hid (fun w' h => refText_any b y us w' (by omega) hi.wfU h)
  have HRR := Lib.hid (fun w' h => refRising_any b y us w' (by omega) h)
  have HT2 := Lib.hid (textAcc_two us hi.wfU)
  have HRB := Lib.hid (risingB_iff us)
  clear h1 h2 hsu hi
  by_cases hl1 : 1 ≤ cs.length ∧ cs.length ≤ 16 ∧ us.length ≤ 64
  · obtain ⟨g1, g2, g3⟩ := hl1
    have g1' : ¬ (cs.length : Int) < 1 := by omega
    have g2' : ¬ (16 : Int) < (cs.length : Int) := by omega
    have g3' : ¬ (64 : Int) < (us.length : Int) := by omega
    go_enter Try.func17, Try.ntmps17
    go_upto_region 1 with (fail)
    have hX : Below w.heap.size w (w.alloc (.cells #[.slice a cs.length x, .slice b us.length y] 35)) := by go_grown
    have HP := Lib.hid (show (w.alloc (.cells #[.slice a cs.length x, .slice b us.length y] 35)).cell? ⟨w.heap.size, 0, none⟩ = some (.slice a cs.length x) ∧ (w.alloc (.cells #[.slice a cs.length x, .slice b us.length y] 35)).cell? ⟨w.heap.size, 1, none⟩ = some (.slice b us.length y) by refine ⟨?_, ?_⟩ <;> (rw [World.cell?_alloc_at _ _ _ _ rfl]; rfl))
    obtain ⟨W, hW⟩ : ∃ W, W = w.alloc (.cells #[.slice a cs.length x, .slice b us.length y] 35) := ⟨_, rfl⟩
    have hWz := Lib.hid (show W.heap.size = w.heap.size + 1 by rw [hW]; simp)
    rw [← hW] at hX HP ⊢
    clear hW
    have HX := Lib.hid hX
    obtain ⟨p0, p1⟩ := HP.out
    clear hX
    go_wp2_with fail
    go_loopw [3] (fun i wr => ∃ j : Nat, i = .int .i64 j ∧ j ≤ cs.length ∧ Hid (∀ i (hi : i < cs.length), i < j → KidFine cs i hi) ∧ Hid (Below W.heap.size W wr)) (fun i _ => cs.length - (intOf i).toNat)
    case atStart => exact ⟨0, rfl, Nat.zero_le _, Lib.hid (fun i _ hi => absurd hi (by omega)), Lib.hid (Below.refl _ _)⟩
    case round =>
      obtain ⟨j, rfl, hj, HF, HB⟩ := hrel
      have hj0 : (0 : Int) ≤ (j : Int) := Int.natCast_nonneg _
      have r0 := kept_cell HB.out p0
      have r1 := kept_cell HB.out p1
      by_cases hjl : j < cs.length
      · have hj1 : (j : Int) < (cs.length : Int) := by omega
        obtain ⟨b0, off, rfl, hb, t0, t1, t2, t3⟩ := hs.cells4C j hjl
        have HBW := Lib.hid (HX.out.trans (HB.out.mono (by have := hWz.out; omega)))
        have q0 := (cell_below HBW.out hb _).trans t0
        have q1 := (cell_below HBW.out hb _).trans t1
        have q2 := (cell_below HBW.out hb _).trans t2
        have q3 := (cell_below HBW.out hb _).trans t3
        have hwf := HIN.out.wfC _ (List.getElem_mem hjl)
        clear t0 t1 t2 t3
        obtain ⟨c, hc⟩ : ∃ c, c = cs[j] := ⟨_, rfl⟩
        rw [← hc] at q0 q1 q2 q3 hwf
        have HC := Lib.hid hc
        clear hc
        go_upto_region 7 with (fail)
        have hX4 : Below wr.heap.size wr (wr.alloc (.cells #[.string (S c.low), .int .i64 c.addr, .int .u64 c.gen, .int .u32 c.sum] 50)) := by go_grown
        have HK := Lib.hid (show (wr.alloc (.cells #[.string (S c.low), .int .i64 c.addr, .int .u64 c.gen, .int .u32 c.sum] 50)).cell? ⟨wr.heap.size, 0, none⟩ = some (.string (S c.low)) ∧ (wr.alloc (.cells #[.string (S c.low), .int .i64 c.addr, .int .u64 c.gen, .int .u32 c.sum] 50)).cell? ⟨wr.heap.size, 1, none⟩ = some (.int .i64 c.addr) by refine ⟨?_, ?_⟩ <;> (rw [World.cell?_alloc_at _ _ _ _ rfl]; rfl))
        obtain ⟨w1, hw1⟩ : ∃ w1, w1 = wr.alloc (.cells #[.string (S c.low), .int .i64 c.addr, .int .u64 c.gen, .int .u32 c.sum] 50) := ⟨_, rfl⟩
        rw [← hw1] at hX4 HK ⊢
        have HB4 := Lib.hid (HB.out.trans (hX4.mono HB.out.size))
        have HBX := Lib.hid (HX.out.trans (HB4.out.mono (by have := hWz.out; omega)))
        have s0 := kept_cell hX4 r0
        have s1 := kept_cell hX4 r1
        clear hw1 hX4 q0 q1 q2 q3 HBW HB r0 r1
        obtain ⟨k0, k1⟩ := HK.out
        by_cases ha : Placed c.addr ∧ c.low.length ≤ 16
        · obtain ⟨⟨ha1, ha2⟩, ha3⟩ := ha
          have HCO := Lib.hid (show ChdOk c from ⟨ha3, ⟨ha1, ha2⟩, hwf.gen, hwf.sum⟩)
          have ha1' : ¬ c.addr < 0 := by omega
          have ha2' : ¬ (2147483647 : Int) < c.addr := by omega
          have ha3' : ¬ (16 : Int) < (c.low.length : Int) := by omega
          rcases Nat.eq_zero_or_pos j with rfl | hj0'
          · cases he : c.low.isEmpty with
            | true =>
              have HK := Lib.hid (take_fine (hj := hjl) HF.out ⟨by rw [← HC.out]; exact HCO.out, ⟨fun _ => by rw [← HC.out]; simpa using he, fun _ => rfl⟩, fun h0 => absurd h0 (by omega)⟩)
              have hd0 : decide ((0 : Int) < ((0 : Nat) : Int)) = false := rfl
              go_upto_region 11 with (fail)
              go_big_region
              go_wp2_with fail
              exact ⟨⟨_, by go_num, by omega, HK, Lib.hid (below_drew' HB4.out)⟩, by simp [intOf]; omega⟩
            | false =>
              have HN := Lib.hid (show ¬ RightR cs us from fun h => by
                have hf := (h.n.kids.fine 0 hjl).first.1 rfl
                rw [← HC.out] at hf
                rw [hf] at he
                exact absurd he (by simp))
              go_wp2_with fail
              exact bodyPost_ret (v := .bool false) (by simp [results, Try.results17, go_sem]) rfl ⟨.no HN.out, HBX.out⟩
          · obtain ⟨q, rfl⟩ : ∃ q, j = q + 1 := ⟨j - 1, by omega⟩
            have hq0 : (((q : Int) + 1) == 0) = false := beq_eq_false_iff_ne.2 (by omega)
            have hq1 : decide (0 < ((q : Int) + 1)) = true := decide_eq_true (by omega)
            have hq2 : ((((q + 1 : Nat) : Int)) == 0) = false := beq_eq_false_iff_ne.2 (by omega)
            have hq3 : decide (0 < (((q + 1 : Nat) : Int))) = true := decide_eq_true (by omega)
            have hq4 : ¬ ((q : Int) + 1) = 0 := by omega
            obtain ⟨b1, off1, e1, hb1, u0, -, -, -⟩ := hs.cells4C q (by omega)
            simp only [Option.some.injEq, Addr.mk.injEq, and_true] at e1
            obtain ⟨rfl, rfl⟩ := e1
            have pr0 := (cell_below HBX.out hb _).trans u0
            clear u0
            obtain ⟨pr, hpr⟩ : ∃ pr, pr = cs[q] := ⟨_, rfl⟩
            rw [← hpr] at pr0
            have HPR := Lib.hid hpr
            clear hpr
            cases hbl : bl pr.low c.low with
            | true =>
              have hne : c.low ≠ [] := fun e => by rw [e, bl_nil] at hbl; exact absurd hbl (by simp)
              have HK := Lib.hid (take_fine (hj := hjl) HF.out ⟨by rw [← HC.out]; exact HCO.out, ⟨fun h => absurd h (by omega), fun h => by rw [← HC.out] at h; exact absurd h hne⟩, fun h0 => by
                rw [← HC.out]
                show bl cs[q].low c.low = true
                rw [← HPR.out]; exact hbl⟩)
              have hb1' : Op.bytesLess c.low pr.low = false := bl_asymm hbl
              have hb2' : (c.low == pr.low) = false := by simpa using fun e : c.low = pr.low => bl_ne hbl e.symm
              have hb3' : Op.bytesLess pr.low c.low = true := hbl
              clear hbl hne
              go_upto_region 11 with (fail)
              go_big_region
              go_wp2_with fail
              exact ⟨⟨_, by go_num, by omega, HK, Lib.hid (below_drew' HB4.out)⟩, by simp [intOf]; omega⟩
            | false =>
              have HN := Lib.hid (show ¬ RightR cs us from fun h => by
                have hf := (h.n.kids.fine (q + 1) hjl).next (by omega)
                rw [← HC.out] at hf
                have hf' : bl cs[q].low c.low = true := hf
                rw [← HPR.out, hbl] at hf'
                exact absurd hf' (by simp))
              rcases bl_not hbl with e | e
              · have hb2' : (c.low == pr.low) = true := by simpa using e
                clear hbl e
                go_upto_region 11 with (fail)
                go_big_region
                go_wp2_with fail
                exact bodyPost_ret (v := .bool false) (by simp [results, Try.results17, go_sem]) rfl ⟨.no HN.out, below_drew' HBX.out⟩
              · have hb1' : Op.bytesLess c.low pr.low = true := e
                clear hbl e
                go_upto_region 11 with (fail)
                go_big_region
                go_wp2_with fail
                exact bodyPost_ret (v := .bool false) (by simp [results, Try.results17, go_sem]) rfl ⟨.no HN.out, below_drew' HBX.out⟩
        · have HN := Lib.hid (show ¬ RightR cs us from fun h => by
            have hf := (h.n.kids.fine j hjl).ok
            rw [← HC.out] at hf
            exact ha ⟨hf.addr, hf.low⟩)
          have HA := Lib.hid ha
          clear ha
          have hcase : c.addr < 0 ∨ (¬ c.addr < 0 ∧ 2147483647 < c.addr) ∨ (¬ c.addr < 0 ∧ ¬ 2147483647 < c.addr ∧ (16 : Int) < (c.low.length : Int)) := by
            have := HA.out
            unfold Placed at this
            omega
          rcases hcase with g | ⟨g, g'⟩ | ⟨g, g', g''⟩
          all_goals
            go_wp2_with fail
            exact bodyPost_ret (v := .bool false) (by simp [results, Try.results17, go_sem]) rfl ⟨.no HN.out, HBX.out⟩
      · obtain rfl : j = cs.length := by omega
        have HKR := Lib.hid (rightC_of ⟨g1, g2⟩ (fun i hi => HF.out i hi hi))
        have HBX := Lib.hid (HX.out.trans (HB.out.mono (by have := hWz.out; omega)))
        go_wp2_with fail
        refine (HRT.out wr (HSU.out.kept HBX.out (Nat.le_refl _))).mono ?_
        rintro e w3 ⟨rfl, hB3⟩
        have r1 := kept_cell hB3 r1
        have HB3 := Lib.hid (HBX.out.trans (hB3.mono HBX.out.size))
        clear hB3 r0
        go_wp2_with fail
        refine (HRR.out w3 (HSU.out.kept HB3.out (Nat.le_refl _))).mono ?_
        rintro e w4 ⟨rfl, hB4⟩
        have HB4 := Lib.hid (HB3.out.trans (hB4.mono HB3.out.size))
        clear hB4 r1
        rcases HT2.out with ⟨hok, ht⟩ | ⟨hno, ec, hc0, ht⟩
        · rw [ht]
          cases hrb : risingB us with
          | true =>
            have HY := Lib.hid (show RightR cs us from ⟨⟨HKR.out, g3, hok⟩, HRB.out.1 hrb⟩)
            clear hok ht hrb
            go_wp2_with fail
            exact bodyPost_ret (v := .bool true) (by simp [results, Try.results17, go_sem]) rfl ⟨.yes HY.out, HB4.out⟩
          | false =>
            have HN := Lib.hid (show ¬ RightR cs us from fun h => by
              have := HRB.out.2 h.rising
              rw [hrb] at this
              exact absurd this (by simp))
            clear hok ht hrb
            go_wp2_with fail
            exact bodyPost_ret (v := .bool false) (by simp [results, Try.results17, go_sem]) rfl ⟨.no HN.out, HB4.out⟩
        · rw [ht]
          have hc0' : ¬ (ec : Int) = 0 := by omega
          have HN := Lib.hid (show ¬ RightR cs us from fun h => hno h.n.ok)
          clear hno ht
          go_wp2_with fail
          exact bodyPost_ret (v := .bool false) (by simp [results, Try.results17, go_sem]) rfl ⟨.no HN.out, HB4.out⟩
  · have HN := Lib.hid (show ¬ RightR cs us from fun h => hl1 ⟨h.n.kids.len.1, h.n.kids.len.2, h.n.len⟩)
    have hcase : (cs.length : Int) < 1 ∨ (¬ (cs.length : Int) < 1 ∧ (16 : Int) < (cs.length : Int)) ∨ (¬ (cs.length : Int) < 1 ∧ ¬ (16 : Int) < (cs.length : Int) ∧ (64 : Int) < (us.length : Int)) := by omega
    clear hl1
    rcases hcase with g | ⟨g, g'⟩ | ⟨g, g', g''⟩
    all_goals
      go_enter Try.func17, Try.ntmps17
      go_wp2_with fail
      exact bodyPost_ret (v := .bool false) (by simp [results, Try.results17, go_sem]) rfl ⟨.no HN.out, by go_grown⟩

end Go.Proofs.Ytlmlmkeomlehmaa
