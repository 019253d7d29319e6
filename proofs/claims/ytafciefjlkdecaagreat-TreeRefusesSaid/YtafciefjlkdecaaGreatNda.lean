/-
  The walks of a child's text, and of a node's children and Right.
-/
import Derived.Test.YtafciefjlkdecaaGreatEnv
namespace Go.Proofs.YtafciefjlkdecaaGreat
open Go.RowKit
attribute [local go_sem ↓] Go.wp_at_zero Go.wp_at_succ

set_option maxHeartbeats 1000000 in
theorem lendJoin_long (s : List UInt8) (hs : ¬ s.length ≤ 255) (w : World) :
    Calls Tryz.prog 104 #[.string (S s)] w fun e w' => e = .returned (.tuple #[.string (S []), .bool false]) ∧ Below w.heap.size w w' := by
  have h1 : (255 : Int) < (s.length : Int) := by omega
  go_enter Tryz.func104, Tryz.ntmps104
  go_wp2_with fail
  go_ret2
  exact ⟨rfl, by go_grown⟩
set_option maxRecDepth 100000 in
set_option maxHeartbeats 4000000 in
/-- A child's bytes, or none. -/
theorem chText_any (c : Chd) (w : World) (hg : c.gen < 18446744073709551616) (hs : c.sum < 4294967296) (hl : c.low.length ≤ 1000000) :
    Calls Tryz.prog 137 #[.agg #[.string (S c.low), .int .i64 c.addr, .int .u64 c.gen, .int .u32 c.sum]] w fun e w' => (∃ s b, e = .returned (.tuple #[.string (S s), .bool b]) ∧ (b = true ↔ c.low.length ≤ 255 ∧ Placed c.addr) ∧ (b = true → s = chT c)) ∧ Below w.heap.size w w' := by
  obtain ⟨low, addr, gen, sum⟩ := c
  dsimp only at hg hs hl ⊢
  have hT : chT ⟨low, addr, gen, sum⟩ = joinT low ++ ptrL addr.toNat gen sum := rfl
  rw [hT]
  clear hT
  by_cases hp : Placed addr
  case' pos =>
    obtain ⟨a, rfl⟩ := Int.eq_ofNat_of_zero_le hp.1
    have ha : a ≤ 2147483647 := by have := hp.2; omega
    have HP := Lib.hid (fun w => ptrText_ok a gen sum w ha hg hs)
    obtain ⟨P, hP⟩ : ∃ P, P = ptrL a gen sum := ⟨_, rfl⟩
    have hPl : P.length = 16 := by rw [hP, ptrL_len]
    obtain ⟨bp, hbp⟩ : ∃ bp, bp = true := ⟨_, rfl⟩
    have hbi : bp = true ↔ Placed (a : Int) := by simp [hbp, hp]
    rw [show ((a : Nat) : Int).toNat = a by simp, ← hP]
    rw [← hP, ← hbp] at HP
    have HPP := Lib.hid (show bp = true → P = P from fun _ => rfl)
    obtain ⟨A, hA⟩ : ∃ A : Int, A = (a : Int) := ⟨_, rfl⟩
    obtain ⟨P0, hP0⟩ : ∃ P0, P0 = P := ⟨_, rfl⟩
    rw [show (bp = true → P = P) = (bp = true → P0 = P) by rw [hP0]] at HPP
    rw [← hP0]
    clear hbp ha hp hP
    rw [← hA] at hbi HP ⊢
    clear hA
  case' neg =>
    have HP := Lib.hid (fun w => ptrText_no addr gen sum w hp)
    obtain ⟨P, hP⟩ : ∃ P : List UInt8, P = [] := ⟨_, rfl⟩
    have hPl : P.length ≤ 16 := by rw [hP]; simp
    obtain ⟨bp, hbp⟩ : ∃ bp, bp = false := ⟨_, rfl⟩
    have hbi : bp = true ↔ Placed addr := by simp [hbp, hp]
    rw [← hP, ← hbp] at HP
    have HPP := Lib.hid (show bp = true → ptrL addr.toNat gen sum = P from fun h => by rw [hbp] at h; cases h)
    obtain ⟨A, hA⟩ : ∃ A : Int, A = addr := ⟨_, rfl⟩
    obtain ⟨P0, hP0⟩ : ∃ P0, P0 = ptrL addr.toNat gen sum := ⟨_, rfl⟩
    rw [← hP0] at HPP ⊢
    clear hbp hp hP hP0
    rw [← hA] at hbi HP ⊢
    clear hA
  all_goals
    have HBI := Lib.hid hbi
    clear hbi
    by_cases hlo : low.length ≤ 255
    case' pos =>
      have HJ := Lib.hid (fun w => lendJoin_any low hlo w)
      have hJl : (joinT low).length ≤ 256 := by rw [joinT_len]; omega
      generalize joinT low = J at *
      obtain ⟨bl, hbl⟩ : ∃ bl, bl = true := ⟨_, rfl⟩
      rw [← hbl] at HJ
      have HB := Lib.hid (show bl = true ↔ low.length ≤ 255 from by simp [hbl, hlo])
      have HJJ := Lib.hid (show bl = true → J = J from fun _ => rfl)
      obtain ⟨J0, hJ0⟩ : ∃ J0, J0 = J := ⟨_, rfl⟩
      rw [show (bl = true → J = J) = (bl = true → J0 = J) by rw [hJ0]] at HJJ
      rw [show J ++ P0 = J0 ++ P0 by rw [hJ0]]
      clear hbl hlo hJ0
    case' neg =>
      have HJ := Lib.hid (fun w => lendJoin_long low hlo w)
      obtain ⟨J, hJ⟩ : ∃ J : List UInt8, J = [] := ⟨_, rfl⟩
      have hJl : J.length ≤ 256 := by rw [hJ]; simp
      rw [← hJ] at HJ
      generalize joinT low = J0 at *
      obtain ⟨bl, hbl⟩ : ∃ bl, bl = false := ⟨_, rfl⟩
      rw [← hbl] at HJ
      have HB := Lib.hid (show bl = true ↔ low.length ≤ 255 from by simp [hbl, hlo])
      have HJJ := Lib.hid (show bl = true → J0 = J from fun h => by rw [hbl] at h; cases h)
      clear hbl hlo hJ
    all_goals
      go_enter Tryz.func137, Tryz.ntmps137
      go_wp2_with fail
      refine (thread (HJ.out _) w.heap.size w (by go_grown) (by go_grown)).mono ?_
      rintro e w1 ⟨rfl, hX1, hk1, -, -, hz1⟩
      have e0 : w1.cell? ⟨w.heap.size, 0, none⟩ = some (.string (S low)) := (hk1 w.heap.size 0 (by simp)).trans (by simp)
      have e1 : w1.cell? ⟨w.heap.size, 1, none⟩ = some (.int .i64 A) := (hk1 w.heap.size 1 (by simp)).trans (by simp)
      have e2 : w1.cell? ⟨w.heap.size, 2, none⟩ = some (.int .u64 gen) := (hk1 w.heap.size 2 (by simp)).trans (by simp)
      have e3 : w1.cell? ⟨w.heap.size, 3, none⟩ = some (.int .u32 sum) := (hk1 w.heap.size 3 (by simp)).trans (by simp)
      clear hk1
      go_wp2_with fail
      refine (thread (HP.out _) w.heap.size w hX1 hz1).mono ?_
      rintro e w2 ⟨rfl, hX2, -, -, -, hz2⟩
      cases bl
      all_goals
        go_wp2_with fail
        go_ret2
        refine ⟨⟨J ++ P, _, rfl, ?_, ?_⟩, hX2⟩
        · rw [← HB.out, ← HBI.out]; simp
        · intro h
          first
            | (cases h; done)
            | (rw [HJJ.out (by trivial), HPP.out h])

/-- A call tells whether P. -/
structure TellsB (e : Ending) (P : Prop) : Prop where
  ex : ∃ r : Bool, e = .returned (.bool r) ∧ (r = true ↔ P)
theorem TellsB.yes {P : Prop} (h : P) : TellsB (.returned (.bool true)) P := ⟨true, rfl, by simpa using h⟩
theorem TellsB.no {P : Prop} (h : ¬ P) : TellsB (.returned (.bool false)) P := ⟨false, rfl, by simpa using h⟩
/-- Child number i fits among those ahead of it. -/
structure KidFine (cs : List Chd) (i : Nat) (h : i < cs.length) : Prop where
  ok : ChdOk cs[i]
  first : i = 0 ↔ cs[i].low = []
  next : ∀ h0 : 0 < i, bl (cs[i - 1]'(by omega)).low cs[i].low = true
theorem rising_adj {α : Type} {key : α → List UInt8} : ∀ (l : List α), (∀ i (h : i + 1 < l.length), bl (key (l[i]'(by omega))) (key l[i + 1]) = true) → Rising key l
  | [], _ => List.Pairwise.nil
  | [a], _ => by unfold Rising; simp
  | a :: b :: l, h => by
    have h1 := rising_adj (key := key) (b :: l) (fun i hi => h (i + 1) (by simpa using hi))
    have h0 := h 0 (by simp)
    unfold Rising at h1 ⊢
    refine List.Pairwise.cons (fun c hc => ?_) h1
    rcases List.mem_cons.1 hc with rfl | hc
    · exact h0
    · exact bl_trans h0 ((List.pairwise_cons.1 h1).1 c hc)
theorem rightC_of {cs : List Chd} (hl : 1 ≤ cs.length ∧ cs.length ≤ 16) (h : ∀ i (hi : i < cs.length), KidFine cs i hi) : RightC cs := by
  refine ⟨hl, fun c hc => ?_, fun c hc => ?_, rising_adj cs (fun i hi => ?_)⟩
  · obtain ⟨i, hi, rfl⟩ := List.getElem_of_mem hc
    exact (h i hi).ok
  · rw [List.getElem?_eq_getElem (by omega)] at hc
    injection hc with hc
    rw [← hc]
    exact (h 0 (by omega)).first.1 rfl
  · exact (h (i + 1) hi).next (by omega)
theorem RightC.fine {cs : List Chd} (h : RightC cs) (i : Nat) (hi : i < cs.length) : KidFine cs i hi := by
  have hr := h.rising
  unfold Rising at hr
  have h0 : cs[0]'(by omega) = cs[0]'(by omega) := rfl
  have hf := h.first (cs[0]'(by omega)) (List.getElem?_eq_getElem (by omega))
  refine ⟨h.ok _ (List.getElem_mem hi), ⟨fun e => by subst e; exact hf, fun e => ?_⟩, fun h0 => List.pairwise_iff_getElem.1 hr (i - 1) i (by omega) hi (by omega)⟩
  rcases Nat.eq_zero_or_pos i with h1 | h1
  · exact h1
  · have := List.pairwise_iff_getElem.1 hr 0 i (by omega) hi h1
    rw [e, bl_nil] at this
    exact absurd this (by simp)
theorem take_fine {cs : List Chd} {j : Nat} {hj : j < cs.length} (h : ∀ i (hi : i < cs.length), i < j → KidFine cs i hi) (hk : KidFine cs j hj) : ∀ i (hi : i < cs.length), i < j + 1 → KidFine cs i hi := fun i hi hlt => by
  rcases Nat.lt_or_ge i j with h1 | h1
  · exact h i hi h1
  · obtain rfl : i = j := by omega
    exact hk

set_option maxRecDepth 100000 in
set_option maxHeartbeats 8000000 in
theorem children_any (v : Value) (cs : List Chd) (us : List Upd) (w : World) (h : NodeAt w v cs us) (hl : cs.length ≤ 1000) (hw : ∀ c ∈ cs, c.Wf) (hlo : ∀ c ∈ cs, c.low.length ≤ 1000000) :
    Calls Tryz.prog 156 #[v] w fun e w' => TellsB e (RightC cs) ∧ Below w.heap.size w w' := by
  obtain ⟨a, b, x, y, rfl, h1, -⟩ := h
  have hs := h1.at
  have HW := Lib.hid hw
  have HLO := Lib.hid hlo
  clear h1 hw hlo
  go_enter Tryz.func156, Tryz.ntmps156
  go_upto_region 1 with (fail)
  have hX : Below w.heap.size w (w.alloc (.cells #[.slice a cs.length x, .slice b us.length y] 105)) := by go_grown
  have HP := Lib.hid (show (w.alloc (.cells #[.slice a cs.length x, .slice b us.length y] 105)).cell? ⟨w.heap.size, 0, none⟩ = some (.slice a cs.length x) by rw [World.cell?_alloc_at _ _ _ _ rfl]; rfl)
  obtain ⟨W, hW⟩ : ∃ W, W = w.alloc (.cells #[.slice a cs.length x, .slice b us.length y] 105) := ⟨_, rfl⟩
  have hWz : W.heap.size = w.heap.size + 1 := by rw [hW]; simp
  rw [← hW] at hX HP ⊢
  clear hW
  have HX := Lib.hid hX
  have hp := HP.out
  clear hX
  go_wp2_with fail
  go_loopw [10] (fun i wr => ∃ j : Nat, i = .int .i64 j ∧ j ≤ cs.length ∧ Hid (∀ i (hi : i < cs.length), i < j → KidFine cs i hi) ∧ Hid (Below W.heap.size W wr)) (fun i _ => cs.length - (intOf i).toNat)
  case atStart => exact ⟨0, rfl, Nat.zero_le _, Lib.hid (fun i _ hi => absurd hi (by omega)), Lib.hid (Below.refl _ _)⟩
  case round =>
    obtain ⟨j, rfl, hj, HF, HB⟩ := hrel
    have hj0 : (0 : Int) ≤ (j : Int) := Int.natCast_nonneg _
    have hp1 := kept_cell HB.out hp
    by_cases hjl : j < cs.length
    · have hj1 : (j : Int) < (cs.length : Int) := by omega
      obtain ⟨b0, off, rfl, hb, t0, t1, t2, t3⟩ := hs.cells4C j hjl
      have HBW := Lib.hid (HX.out.trans (HB.out.mono (by omega)))
      have q0 := (cell_below HBW.out hb _).trans t0
      have q1 := (cell_below HBW.out hb _).trans t1
      have q2 := (cell_below HBW.out hb _).trans t2
      have q3 := (cell_below HBW.out hb _).trans t3
      have hwf := HW.out _ (List.getElem_mem hjl)
      have hll := HLO.out _ (List.getElem_mem hjl)
      have HT := Lib.hid (fun w => chText_any cs[j] w hwf.gen hwf.sum hll)
      clear t0 t1 t2 t3
      obtain ⟨c, hc⟩ : ∃ c, c = cs[j] := ⟨_, rfl⟩
      rw [← hc] at q0 q1 q2 q3 hwf hll HT
      have HC := Lib.hid hc
      clear hc
      go_upto_region 4 with (fail)
      have hX4 : Below wr.heap.size wr (wr.alloc (.cells #[.string (S c.low), .int .i64 c.addr, .int .u64 c.gen, .int .u32 c.sum] 179)) := by go_grown
      have HK := Lib.hid (show (wr.alloc (.cells #[.string (S c.low), .int .i64 c.addr, .int .u64 c.gen, .int .u32 c.sum] 179)).cell? ⟨wr.heap.size, 0, none⟩ = some (.string (S c.low)) ∧ (wr.alloc (.cells #[.string (S c.low), .int .i64 c.addr, .int .u64 c.gen, .int .u32 c.sum] 179)).cell? ⟨wr.heap.size, 1, none⟩ = some (.int .i64 c.addr) ∧ (wr.alloc (.cells #[.string (S c.low), .int .i64 c.addr, .int .u64 c.gen, .int .u32 c.sum] 179)).cell? ⟨wr.heap.size, 2, none⟩ = some (.int .u64 c.gen) ∧ (wr.alloc (.cells #[.string (S c.low), .int .i64 c.addr, .int .u64 c.gen, .int .u32 c.sum] 179)).cell? ⟨wr.heap.size, 3, none⟩ = some (.int .u32 c.sum) by refine ⟨?_, ?_, ?_, ?_⟩ <;> (rw [World.cell?_alloc_at _ _ _ _ rfl]; rfl))
      obtain ⟨w1, hw1⟩ : ∃ w1, w1 = wr.alloc (.cells #[.string (S c.low), .int .i64 c.addr, .int .u64 c.gen, .int .u32 c.sum] 179) := ⟨_, rfl⟩
      rw [← hw1] at hX4 HK ⊢
      have HB4 := Lib.hid (HB.out.trans (hX4.mono HB.out.size))
      clear hw1 hX4 q0 q1 q2 q3 HBW HB hp1
      obtain ⟨k0, k1, k2, k3⟩ := HK.out
      go_wp2_with fail
      refine (HT.out w1).mono ?_
      rintro e w2 ⟨⟨s, ok, rfl, hok, -⟩, hB2⟩
      have d0 := kept_cell hB2 k0
      have HB2 := Lib.hid (HB4.out.trans (hB2.mono HB4.out.size))
      have dp := kept_cell HB2.out hp
      have HBW := Lib.hid (HX.out.trans (HB2.out.mono (by omega)))
      have HOK := Lib.hid hok
      clear hok hB2 HB4 k0 k1 k2 k3 HK HT
      have hdj : j = 0 ∨ 0 < j := by omega
      cases ok with
      | false =>
        have HN := Lib.hid (show ¬ RightC cs from fun h => by
          have hf := h.fine j hjl
          have h1 := hf.ok.is.low
          have h2 := hf.ok.addr
          rw [← HC.out] at h1 h2
          exact absurd (HOK.out.2 ⟨h1, h2⟩) (by simp))
        go_wp2_with fail
        go_big_region
        go_wp2_with fail
        exact bodyPost_ret (v := .bool false) (by simp [results, Tryz.results156, go_sem]) rfl ⟨.no HN.out, below_drew' HBW.out⟩
      | true =>
        obtain ⟨hl255, hpl⟩ := HOK.out.1 rfl
        by_cases h16 : c.low.length ≤ 16
        · have h16' : ¬ (16 : Int) < (c.low.length : Int) := by omega
          have hd16 : decide ((16 : Int) < (c.low.length : Int)) = false := by simpa using h16'
          have HCO := Lib.hid (show ChdOk c from ⟨h16, hpl, hwf.gen, hwf.sum⟩)
          rcases hdj with rfl | hj0'
          · cases he : c.low.isEmpty with
            | true =>
              have HK := Lib.hid (take_fine (hj := hjl) HF.out ⟨by rw [← HC.out]; exact HCO.out, ⟨fun _ => by rw [← HC.out]; simpa using he, fun _ => rfl⟩, fun h0 => absurd h0 (by omega)⟩)
              go_wp2_with fail
              go_big_region
              go_wp2_with fail
              exact ⟨⟨_, by go_num, by omega, HK, Lib.hid (below_drew' HB2.out)⟩, by simp [intOf]; omega⟩
            | false =>
              have HN := Lib.hid (show ¬ RightC cs from fun h => by
                have hf := (h.fine 0 hjl).first.1 rfl
                rw [← HC.out] at hf
                rw [hf] at he
                exact absurd he (by simp))
              go_wp2_with fail
              go_big_region
              go_wp2_with fail
              exact bodyPost_ret (v := .bool false) (by simp [results, Tryz.results156, go_sem]) rfl ⟨.no HN.out, below_drew' HBW.out⟩
          · obtain ⟨q, rfl⟩ : ∃ q, j = q + 1 := ⟨j - 1, by omega⟩
            have hq0 : (((q : Int) + 1) == 0) = false := beq_eq_false_iff_ne.2 (by omega)
            have hq1 : decide (0 < ((q : Int) + 1)) = true := decide_eq_true (by omega)
            have hq2 : ((((q + 1 : Nat) : Int)) == 0) = false := beq_eq_false_iff_ne.2 (by omega)
            have hq3 : decide (0 < (((q + 1 : Nat) : Int))) = true := decide_eq_true (by omega)
            cases he : c.low.isEmpty with
            | true =>
              have HN := Lib.hid (show ¬ RightC cs from fun h => by
                have hf := (h.fine (q + 1) hjl).first.2 (by rw [← HC.out]; simpa using he)
                omega)
              go_wp2_with fail
              go_big_region
              go_wp2_with fail
              exact bodyPost_ret (v := .bool false) (by simp [results, Tryz.results156, go_sem]) rfl ⟨.no HN.out, below_drew' HBW.out⟩
            | false =>
              obtain ⟨b1, off1, e1, hb1, u0, -, -, -⟩ := hs.cells4C q (by omega)
              simp only [Option.some.injEq, Addr.mk.injEq, and_true] at e1
              obtain ⟨rfl, rfl⟩ := e1
              have p0 := (cell_below HBW.out hb _).trans u0
              clear u0
              obtain ⟨pr, hpr⟩ : ∃ pr, pr = cs[q] := ⟨_, rfl⟩
              rw [← hpr] at p0
              have HPR := Lib.hid hpr
              clear hpr
              cases hbl : bl pr.low c.low with
              | true =>
                have HK := Lib.hid (take_fine (hj := hjl) HF.out ⟨by rw [← HC.out]; exact HCO.out, ⟨fun h => absurd h (by omega), fun h => by rw [← HC.out] at h; rw [h] at he; exact absurd he (by simp)⟩, fun h0 => by
                  rw [← HC.out]
                  show bl cs[q].low c.low = true
                  rw [← HPR.out]; exact hbl⟩)
                have hb1' : Op.bytesLess c.low pr.low = false := bl_asymm hbl
                have hb2' : (pr.low == c.low) = false := by simpa using bl_ne hbl
                have hb3' : Op.bytesLess pr.low c.low = true := hbl
                clear hbl
                go_wp2_with fail
                go_big_region
                go_wp2_with fail
                exact ⟨⟨_, by go_num, by omega, HK, Lib.hid (below_drew' HB2.out)⟩, by simp [intOf]; omega⟩
              | false =>
                have HN := Lib.hid (show ¬ RightC cs from fun h => by
                  have hf := (h.fine (q + 1) hjl).next (by omega)
                  rw [← HC.out] at hf
                  have hf' : bl cs[q].low c.low = true := hf
                  rw [← HPR.out, hbl] at hf'
                  exact absurd hf' (by simp))
                have hb3' : Op.bytesLess pr.low c.low = false := hbl
                rcases bl_not hbl with e | e
                · have hb2' : (pr.low == c.low) = true := by simpa using e.symm
                  clear hbl e
                  go_wp2_with fail
                  go_big_region
                  go_wp2_with fail
                  exact bodyPost_ret (v := .bool false) (by simp [results, Tryz.results156, go_sem]) rfl ⟨.no HN.out, below_drew' HBW.out⟩
                · have hb1' : Op.bytesLess c.low pr.low = true := e
                  clear hbl e
                  go_wp2_with fail
                  go_big_region
                  go_wp2_with fail
                  exact bodyPost_ret (v := .bool false) (by simp [results, Tryz.results156, go_sem]) rfl ⟨.no HN.out, below_drew' HBW.out⟩
        · have h16' : (16 : Int) < (c.low.length : Int) := by omega
          have HN := Lib.hid (show ¬ RightC cs from fun h => by
            have hf := (h.fine j hjl).ok.low
            rw [← HC.out] at hf
            omega)
          go_wp2_with fail
          go_big_region
          go_wp2_with fail
          exact bodyPost_ret (v := .bool false) (by simp [results, Tryz.results156, go_sem]) rfl ⟨.no HN.out, below_drew' HBW.out⟩
    · obtain rfl : j = cs.length := by omega
      by_cases h1 : 1 ≤ cs.length
      · by_cases h2 : cs.length ≤ 16
        · have HR := Lib.hid (rightC_of ⟨h1, h2⟩ (fun i hi => HF.out i hi hi))
          have h2' : (cs.length : Int) ≤ 16 := by omega
          go_wp2_with fail
          exact bodyPost_ret (v := .bool true) (by simp [results, Tryz.results156, go_sem]) rfl ⟨.yes HR.out, HX.out.trans (HB.out.mono (by omega))⟩
        · have HR := Lib.hid (fun h : RightC cs => h2 h.len.2)
          have h2' : ¬ (cs.length : Int) ≤ 16 := by omega
          go_wp2_with fail
          exact bodyPost_ret (v := .bool false) (by simp [results, Tryz.results156, go_sem]) rfl ⟨.no HR.out, HX.out.trans (HB.out.mono (by omega))⟩
      · have HR := Lib.hid (fun h : RightC cs => h1 h.len.1)
        go_wp2_with fail
        exact bodyPost_ret (v := .bool false) (by simp [results, Tryz.results156, go_sem]) rfl ⟨.no HR.out, HX.out.trans (HB.out.mono (by omega))⟩

end Go.Proofs.YtafciefjlkdecaaGreat
