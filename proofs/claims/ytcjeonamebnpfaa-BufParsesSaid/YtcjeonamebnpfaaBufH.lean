/-
  The walks of buf.Parse, and of the document's Parse of layer 15.
-/
import Derived.Test.YtcjeonamebnpfaaBufF
namespace Go.Proofs.Ytcjeonamebnpfaa
open Go.RowKit
attribute [local go_sem ↓] Go.wp_at_zero Go.wp_at_succ

theorem parseU_bad {s : List UInt8} (h : (recU s).2 = 4) : parseU s = ([], 4) := by rw [parseU_of, if_neg (by omega), h]
theorem parseU_wild {s : List UInt8} (h : (recU s).2 = 0) (k : risingB (recU s).1 = false) : parseU s = ([], 4) := by rw [parseU_of, if_pos h, if_neg (by simp [k])]
theorem parseU_good {s : List UInt8} (h : (recU s).2 = 0) (k : risingB (recU s).1 = true) : parseU s = ((recU s).1, 0) := by rw [parseU_of, if_pos h, if_pos k]

abbrev BufBox : Obj := .cells #[.slice none 0 0] 36

set_option maxRecDepth 100000 in
set_option maxHeartbeats 4000000 in
theorem bufParse_any (s0 : List UInt8) (hl : s0.length ≤ 900000) (w : World) :
    Calls Try.prog 43 #[.string (S s0)] w fun e w' => BfRes w.heap.size (parseU s0) e w' ∧ Below w.heap.size w w' := by
  have hrp := fun W => recParse_any s0 hl W
  have h2 := recU_two s0
  have hal := recU_all s0
  have hb := Lib.hid (@parseU_bad s0)
  have hw := Lib.hid (@parseU_wild s0)
  have hg := Lib.hid (@parseU_good s0)
  generalize recU s0 = Q at *
  generalize parseU s0 = P at *
  obtain ⟨L, n⟩ := Q
  dsimp only at h2 hal
  have HRP := Lib.hid hrp
  have hL : L.length ≤ 900000 := by omega
  clear hrp hal
  rcases h2 with rfl | ⟨rfl, rfl⟩
  · have hof := Lib.hid (ofU_yes (l := L))
    have hon := Lib.hid (ofU_no (l := L))
    cases hr : risingB L with
    | true =>
      have HP := Lib.hid (hg.out rfl hr)
      have HF := Lib.hid (hof.out ((risingB_iff L).1 hr))
      clear hb hw hg hr hof hon
      go_enter Try.func43, Try.ntmps43
      go_wp2_with fail
      refine (thread (HRP.out _) (w.heap.size + 1) (w.alloc BufBox) (Below.refl _ _) (by simp)).mono ?_
      rintro e w1 ⟨⟨a1, c1, rfl, ho1⟩, hB1, -, -, -, hz1⟩
      dsimp only at ho1
      have hof1 := bufOf_any a1 L.length c1 L w1 rfl (by omega) (SlU.of_own ho1).2
      rw [HF.out] at hof1
      have HOF := Lib.hid hof1
      clear ho1 hof1 HRP
      have hz0 : w.heap.size < w1.heap.size := by omega
      go_wp2_with fail
      refine (thread HOF.out w1.heap.size w1 (Below.refl _ _) (Nat.le_refl _)).mono ?_
      rintro e w2 ⟨⟨a2, c2, rfl, ho2⟩, hX2, -, -, -, hz2⟩
      dsimp only at ho2
      have hB2 := hB1.trans (hX2.mono hz1)
      have p2 : w2.cell? ⟨w.heap.size, 0, none⟩ = some (.slice none 0 0) := (hB2.cell (p := ⟨w.heap.size, 0, none⟩) (Nat.lt_succ_self _)).trans (by simp)
      have pf2 : w2.frozen? ⟨w.heap.size, 0, none⟩ = false := (hB2.frozen (p := ⟨w.heap.size, 0, none⟩) (Nat.lt_succ_self _)).trans (by simp)
      have HO2 := Lib.hid ho2
      have HB2 := Lib.hid ((Below.alloc (Below.refl _ w) (Nat.le_refl _) BufBox).trans (hB2.mono (Nat.le_succ _)))
      have hlt2 : w.heap.size < w2.heap.size := by omega
      clear ho2 hB1 hB2 hX2 HOF
      go_wp2_with fail
      have pz := cell_past (.cells #[.slice a2 L.length c2] 36) (show (w2.setCell ⟨w.heap.size, 0, none⟩ (.slice a2 L.length c2)).cell? ⟨w.heap.size, 0, none⟩ = some (.slice a2 L.length c2) from World.cell?_setCell_same w2 _ _ p2)
      refine bodyPost_ret (v := .tuple #[.agg #[.slice a2 L.length c2], .int .i64 0]) (by simp [results, Try.results43, go_sem, pz]) rfl ⟨?_, ?_⟩
      · rw [HP.out]
        exact ⟨a2, c2, rfl, own_base ((ownsRow_setCell_other (a := ⟨w.heap.size, 0, none⟩) HO2.out (fun e => by have h : w1.heap.size ≤ w.heap.size := (HO2.out.lt _ e).1; omega) _).alloc _) (by omega)⟩
      · exact ((HB2.out).setCell (p := ⟨w.heap.size, 0, none⟩) (Nat.le_refl _) _).alloc (by rw [World.size_setCell]; omega) _
    | false =>
      have HP := Lib.hid (hw.out rfl hr)
      have HF := Lib.hid (hon.out (fun h => by rw [(risingB_iff L).2 h] at hr; exact absurd hr (by simp)))
      clear hb hw hg hr hof hon
      go_enter Try.func43, Try.ntmps43
      go_wp2_with fail
      refine (thread (HRP.out _) (w.heap.size + 1) (w.alloc BufBox) (Below.refl _ _) (by simp)).mono ?_
      rintro e w1 ⟨⟨a1, c1, rfl, ho1⟩, hB1, -, -, -, hz1⟩
      dsimp only at ho1
      have hof1 := bufOf_any a1 L.length c1 L w1 rfl (by omega) (SlU.of_own ho1).2
      rw [HF.out] at hof1
      have HOF := Lib.hid hof1
      clear ho1 hof1 HRP
      have hz0 : w.heap.size < w1.heap.size := by omega
      go_wp2_with fail
      refine (thread HOF.out w1.heap.size w1 (Below.refl _ _) (Nat.le_refl _)).mono ?_
      rintro e w2 ⟨⟨a2, c2, rfl, ho2⟩, hX2, -, -, -, hz2⟩
      have hB2 := hB1.trans (hX2.mono hz1)
      have p2 : w2.cell? ⟨w.heap.size, 0, none⟩ = some (.slice none 0 0) := (hB2.cell (p := ⟨w.heap.size, 0, none⟩) (Nat.lt_succ_self _)).trans (by simp)
      have pf2 : w2.frozen? ⟨w.heap.size, 0, none⟩ = false := (hB2.frozen (p := ⟨w.heap.size, 0, none⟩) (Nat.lt_succ_self _)).trans (by simp)
      have HB2 := Lib.hid ((Below.alloc (Below.refl _ w) (Nat.le_refl _) BufBox).trans (hB2.mono (Nat.le_succ _)))
      have hlt2 : w.heap.size < w2.heap.size := by omega
      clear ho2 hB1 hB2 hX2 HOF
      go_wp2_with fail
      have pz := fun o => cell_past o (show (w2.setCell ⟨w.heap.size, 0, none⟩ (.slice none 0 0)).cell? ⟨w.heap.size, 0, none⟩ = some (.slice none 0 0) from World.cell?_setCell_same w2 _ _ p2)
      refine bodyPost_ret (v := .tuple #[.agg #[.slice none 0 0], .int .i64 4]) (by simp [results, Try.results43, go_sem, pz]) rfl ⟨?_, ?_⟩
      · rw [HP.out]
        exact BfRes.none _ _ _ _ rfl
      · exact ((HB2.out).setCell (p := ⟨w.heap.size, 0, none⟩) (Nat.le_refl _) _).alloc (by rw [World.size_setCell]; omega) _
  · have HP := Lib.hid (hb.out rfl)
    clear hb hw hg
    go_enter Try.func43, Try.ntmps43
    go_wp2_with fail
    refine (thread (HRP.out _) (w.heap.size + 1) (w.alloc BufBox) (Below.refl _ _) (by simp)).mono ?_
    rintro e w1 ⟨⟨a1, c1, rfl, ho1⟩, hB1, -, -, -, hz1⟩
    have p2 : w1.cell? ⟨w.heap.size, 0, none⟩ = some (.slice none 0 0) := (hB1.cell (p := ⟨w.heap.size, 0, none⟩) (Nat.lt_succ_self _)).trans (by simp)
    have pf2 : w1.frozen? ⟨w.heap.size, 0, none⟩ = false := (hB1.frozen (p := ⟨w.heap.size, 0, none⟩) (Nat.lt_succ_self _)).trans (by simp)
    have HB2 := Lib.hid ((Below.alloc (Below.refl _ w) (Nat.le_refl _) BufBox).trans (hB1.mono (Nat.le_succ _)))
    clear ho1 hB1 HRP
    go_wp2_with fail
    refine bodyPost_ret (v := .tuple #[.agg #[.slice none 0 0], .int .i64 4]) (by simp [results, Try.results43, go_sem, p2]) rfl ⟨?_, ?_⟩
    · rw [HP.out]
      exact BfRes.none _ _ _ _ rfl
    · exact (HB2.out).setCell (p := ⟨w.heap.size, 0, none⟩) (Nat.le_refl _) _

theorem SlU.of_row {w : World} {B n : Nat} {E : TypeId} {v : Value} {l : List Upd} (h : w.ownsRow B E 4 v n (cellsU l)) : l.length = n ∧ SlU w v l := by
  have hn := h.1
  rw [cellsU_len] at hn
  have hn' : l.length = n := by omega
  subst hn'
  refine ⟨rfl, ?_⟩
  rcases ownsRow_open h with ⟨rfl, h0, -⟩ | ⟨g, cap, cur, rfl, -, hr, h3, h4, h5, h6⟩
  · obtain rfl := List.eq_nil_of_length_eq_zero h0
    exact SlU.nil w
  · refine ⟨_, cap, rfl, Or.inr ⟨g, 0, rfl, hr.lt, fun i hi j x hx => ?_⟩, h3, by unfold maxLen at h4; omega, fun e => by simp at e⟩
    have hj : j < 4 := (List.getElem?_eq_some_iff.1 hx).1
    have e := cellsU_get l i hi j x hx
    rw [hr.cell, Nat.zero_add, ← e, ← h6, List.getElem?_take, if_pos (by omega)]

set_option maxRecDepth 100000 in
set_option maxHeartbeats 4000000 in
theorem refBufParse_any (s0 : List UInt8) (hl : s0.length ≤ 900000) (w : World) :
    Calls Try.prog 44 #[.string (S s0)] w fun e w' => RecRes w.heap.size 32 (parseU s0) e w' ∧ Below w.heap.size w w' := by
  have hrp := fun W => refParseU_any s0 hl W
  have h2 := recU_two s0
  have hal := recU_all s0
  have hb := Lib.hid (@parseU_bad s0)
  have hw := Lib.hid (@parseU_wild s0)
  have hg := Lib.hid (@parseU_good s0)
  generalize recU s0 = Q at *
  generalize parseU s0 = P at *
  obtain ⟨L, n⟩ := Q
  dsimp only at h2 hal
  have HRP := Lib.hid hrp
  have hL : L.length ≤ 900000 := by omega
  clear hrp hal
  rcases h2 with rfl | ⟨rfl, rfl⟩
  · cases hr : risingB L with
    | true =>
      have HP := Lib.hid (hg.out rfl hr)
      have HRI := Lib.hid (fun ao c W h => refRising_any ao c L W (by omega) h)
      rw [hr] at HRI
      clear hb hw hg hr
      go_enter Try.func44, Try.ntmps44
      go_wp2_with fail
      refine (thread (HRP.out _) w.heap.size w (by go_grown) (by go_grown)).mono ?_
      rintro e w1 ⟨⟨a1, c1, rfl, ho1⟩, hB1, -, -, -, hz1⟩
      dsimp only at ho1
      obtain ⟨x, y, ee, hsa, -⟩ := (SlU.of_row ho1).2
      simp only [Value.slice.injEq] at ee
      obtain ⟨rfl, -, rfl⟩ := ee
      have HO1 := Lib.hid ho1
      have HRI2 := Lib.hid (HRI.out a1 c1 w1 hsa)
      clear ho1 hsa HRI HRP
      go_wp2_with fail
      refine (thread HRI2.out w1.heap.size w1 (Below.refl _ _) (Nat.le_refl _)).mono ?_
      rintro e w2 ⟨rfl, hX2, -, -, -, hz2⟩
      have hB2 := hB1.trans (hX2.mono hz1)
      have HO2 := Lib.hid (own_below HO1.out hX2)
      go_wp2_with fail
      refine bodyPost_ret (v := .tuple #[.slice a1 L.length c1, .int .i64 0]) (by simp [results, Try.results44, go_sem]) rfl ⟨?_, hB2⟩
      rw [HP.out]
      exact ⟨a1, c1, rfl, HO2.out⟩
    | false =>
      have HP := Lib.hid (hw.out rfl hr)
      have HRI := Lib.hid (fun ao c W h => refRising_any ao c L W (by omega) h)
      rw [hr] at HRI
      clear hb hw hg hr
      go_enter Try.func44, Try.ntmps44
      go_wp2_with fail
      refine (thread (HRP.out _) w.heap.size w (by go_grown) (by go_grown)).mono ?_
      rintro e w1 ⟨⟨a1, c1, rfl, ho1⟩, hB1, -, -, -, hz1⟩
      dsimp only at ho1
      obtain ⟨x, y, ee, hsa, -⟩ := (SlU.of_row ho1).2
      simp only [Value.slice.injEq] at ee
      obtain ⟨rfl, -, rfl⟩ := ee
      have HRI2 := Lib.hid (HRI.out a1 c1 w1 hsa)
      clear ho1 hsa HRI HRP
      go_wp2_with fail
      refine (thread HRI2.out w1.heap.size w1 (Below.refl _ _) (Nat.le_refl _)).mono ?_
      rintro e w2 ⟨rfl, hX2, -, -, -, hz2⟩
      have hB2 := hB1.trans (hX2.mono hz1)
      go_wp2_with fail
      refine bodyPost_ret (v := .tuple #[.slice none 0 0, .int .i64 4]) (by simp [results, Try.results44, go_sem]) rfl ⟨?_, hB2⟩
      rw [HP.out]
      exact RecRes.none _ _ _ _ _ rfl
  · have HP := Lib.hid (hb.out rfl)
    clear hb hw hg
    go_enter Try.func44, Try.ntmps44
    go_wp2_with fail
    refine (thread (HRP.out _) w.heap.size w (by go_grown) (by go_grown)).mono ?_
    rintro e w1 ⟨⟨a1, c1, rfl, ho1⟩, hB1, -, -, -, hz1⟩
    clear ho1 HRP
    go_wp2_with fail
    refine bodyPost_ret (v := .tuple #[.slice none 0 0, .int .i64 4]) (by simp [results, Try.results44, go_sem]) rfl ⟨?_, hB1⟩
    rw [HP.out]
    exact RecRes.none _ _ _ _ _ rfl

end Go.Proofs.Ytcjeonamebnpfaa
