/-
  The walk of a history's Cut.
-/
import Derived.Test.YthcjcmalfnfjkaaHia
import Derived.Test.YthcjcmalfnfjkaaHib
namespace Go.Proofs.Ythcjcmalfnfjkaa
open Go.RowKit Go.Maps Go.WideShapes Go.Shelf
set_option linter.unusedVariables false
attribute [local go_sem ↓] Go.wp_at_zero Go.wp_at_succ

set_option maxRecDepth 100000 in
set_option maxHeartbeats 4000000 in
theorem hisCut_no (S0 : Nat → Prop) (h : Nat) (a : Option Addr) (c p b : Nat) (all : List Upd) (last : Nat) (n : Int) (w : World) (H : HisAt w S0 h a c p b all last) (hn : n < last ∨ (all.length : Int) < n) :
    Calls Try.prog 13 #[.pointer (some ⟨h, 0, none⟩), .int .i64 n] w fun e w' => e = .returned (.int .i64 3) ∧ Below w.heap.size w w' := by
  have c0 := H.c0
  have c1 := H.c1
  clear H
  by_cases hn1 : n < (last : Int)
  · go_enter Try.func13, Try.ntmps13
    go_wp2_with fail
    go_ret
    exact ⟨rfl, by go_grown⟩
  · have hn2 : (all.length : Int) < n := by omega
    go_enter Try.func13, Try.ntmps13
    go_wp2_with fail
    go_ret
    exact ⟨rfl, by go_grown⟩

set_option maxRecDepth 100000 in
set_option maxHeartbeats 8000000 in
theorem hisCut_any (S0 : Nat → Prop) (h : Nat) (a : Option Addr) (c p b : Nat) (all : List Upd) (last n : Nat) (w : World) (H : HisAt w S0 h a c p b all last) (hn1 : last ≤ n) (hn2 : n ≤ all.length) :
    Calls Try.prog 13 #[.pointer (some ⟨h, 0, none⟩), .int .i64 (n : Nat)] w fun e w' => e = .returned (.int .i64 0) ∧ (∃ p' b', HisNext w w' S0 h p' b' (all.take n) n) ∧ Off S0 w w' := by
  have c0 := H.c0
  have c1 := H.c1
  have HH := Lib.hid H
  have hlen := H.len
  have hcap := H.row.2.1
  have hn1' : ¬ (n : Int) < (last : Int) := by omega
  have hn2' : ¬ (all.length : Int) < (n : Int) := by omega
  clear H
  have hcut := fun w => cut_U a all.length c n hn2 hcap w
  have htl : (all.take n).length = n := by rw [List.length_take]; omega
  have HT := Lib.hid htl
  clear htl
  go_enter Try.func13, Try.ntmps13
  go_wp2_with fail
  refine (cloneU (.slice a n c) (all.take n) w ⟨a, c, by rw [HT.out], take_at HH.out.row.1 n, by rw [HT.out]; omega, HH.out.row.2.2.1, HH.out.row.2.2.2⟩ (by rw [HT.out]; omega)).mono ?_
  rintro e w1 ⟨⟨v, rfl, hown⟩, hB1⟩
  rw [HT.out] at hown
  obtain ⟨g, cg, rfl⟩ := own_form hown
  have HO := Lib.hid hown
  have HH1 := Lib.hid (HH.out.below hB1)
  have HB1 := Lib.hid hB1
  clear hown hB1 hcut c0 c1
  have c0 := HH1.out.c0
  have c1 := HH1.out.c1
  have f0 := HH1.out.fr 0
  have f1 := HH1.out.fr 1
  have hhw := HH.out.lt h HH.out.sh
  have hoh : (Value.slice g n cg).ownBlock ≠ some h := fun e => by have := (HO.out.lt h e).1; omega
  go_upto_region 6 with (fail)
  obtain ⟨W, hW⟩ : ∃ W, W = (w1.setCell ⟨h, 0, none⟩ (.slice g n cg)).setCell ⟨h, 1, none⟩ (.int .i64 (n : Nat)) := ⟨_, rfl⟩
  rw [← hW]
  have ne01 : (⟨h, 1, none⟩ : Addr) ≠ ⟨h, 0, none⟩ := by intro e; injection e with e1 e2; exact absurd e2 (by decide)
  have ne10 : (⟨h, 0, none⟩ : Addr) ≠ ⟨h, 1, none⟩ := by intro e; injection e with e1 e2; exact absurd e2 (by decide)
  have ne02 : (⟨h, 0, none⟩ : Addr) ≠ ⟨h, 2, none⟩ := by intro e; injection e with e1 e2; exact absurd e2 (by decide)
  have ne12 : (⟨h, 1, none⟩ : Addr) ≠ ⟨h, 2, none⟩ := by intro e; injection e with e1 e2; exact absurd e2 (by decide)
  have x0 : W.cell? ⟨h, 0, none⟩ = some (.slice g n cg) := by rw [hW, World.cell?_setCell_other _ _ _ _ ne01]; exact World.cell?_setCell_same _ _ _ c0
  have x1 : W.cell? ⟨h, 1, none⟩ = some (.int .i64 (n : Nat)) := by rw [hW]; exact World.cell?_setCell_same _ _ _ ((World.cell?_setCell_other _ _ _ _ ne10).trans c1)
  have x2 : W.cell? ⟨h, 2, none⟩ = some (.pointer (some ⟨p, 0, none⟩)) := by rw [hW, World.cell?_setCell_other _ _ _ _ ne12, World.cell?_setCell_other _ _ _ _ ne02]; exact HH1.out.c2
  have xf : ∀ o, W.frozen? ⟨h, o, none⟩ = false := fun o => by rw [hW, World.frozen?_setCell, World.frozen?_setCell]; exact HH1.out.fr o
  have hWz : W.heap.size = w1.heap.size := by rw [hW]; simp
  have HOW := Lib.hid (show W.ownsRow w.heap.size 36 4 (.slice g n cg) n (cellsU (all.take n)) from by
    rw [hW]; exact ownsRow_setCell_other (a := ⟨h, 1, none⟩) (ownsRow_setCell_other (a := ⟨h, 0, none⟩) HO.out hoh _) hoh _)
  have HOF := Lib.hid (show Off S0 w W from by
    have h1 : Off S0 w w1 := Off.of_below HB1.out
    have h2 : Off S0 w1 (w1.setCell ⟨h, 0, none⟩ (.slice g n cg)) := Off.setCell _ HH.out.sh _
    have h3 : Off S0 (w1.setCell ⟨h, 0, none⟩ (.slice g n cg)) W := by rw [hW]; exact Off.setCell _ HH.out.sh _
    exact (h1.trans h2 (fun i hi => Or.inl hi)).trans h3 (fun i hi => Or.inl hi))
  have hzw := HB1.out.size
  clear hW c0 c1 f0 f1
  have hfz := xf 2
  go_wp2_with fail
  have hse := (SlU.of_own HOW.out).2.form
  obtain ⟨g', cg', ee, hs1, -⟩ := hse
  simp only [Value.slice.injEq] at ee
  obtain ⟨rfl, -, rfl⟩ := ee
  refine (modOf_of g cg (all.take n) n W HT.out hs1 (fun u hu => (HH.out.wf u (List.mem_of_mem_take hu)).1) (by rw [HT.out]; omega)).mono ?_
  rintro e w4 ⟨⟨p2, b2, rfl, g1, g2, g3⟩, hB4⟩
  have y0 := kept_cell hB4 x0
  have y1 := kept_cell hB4 x1
  have y2 := kept_cell hB4 x2
  have HYF := Lib.hid (fun o => ((bcell hB4).2 h o (cell_lt x0)).trans (xf o))
  have HY := Lib.hid (own_below HOW.out hB4)
  have HM := Lib.hid g3
  have HB4 := Lib.hid hB4
  clear xf hs1 g3 hB4 x0 x1 x2 hfz
  have yf := HYF.out 2
  go_wp2_with fail
  go_ret
  have hz4 := HB4.out.size
  have hhp : h ≠ p2 := by omega
  have hhb : b2 ≠ h := by omega
  have hnp : (⟨h, 2, none⟩ : Addr) ≠ ⟨p2, 0, none⟩ := by intro e; injection e with e1 e2; exact hhp e1
  refine ⟨rfl, ⟨p2, b2, fun i => S0 i ∨ (w.heap.size ≤ i ∧ i < w4.heap.size), g, cg, ?_, fun i hi => hi.imp id (fun x => x.1)⟩, ?_⟩
  · refine ⟨?_, ?_, ?_, ?_, ?_, ?_, ?_, hhp.symm, Or.inl HH.out.sh, ?_, ?_, ?_, ?_, ?_, ?_, ?_⟩
    · rw [HT.out]; exact (World.cell?_setCell_other _ _ _ _ ne02.symm).trans y0
    · exact (World.cell?_setCell_other _ _ _ _ ne12.symm).trans y1
    · exact World.cell?_setCell_same _ _ _ y2
    · intro o; rw [World.frozen?_setCell]; exact HYF.out o
    · rw [HT.out]; exact own_base (ownsRow_setCell_other (a := ⟨h, 2, none⟩) HY.out hoh _) (Nat.zero_le _)
    · rw [HT.out]; exact ⟨hoh, fun e => by have := (HOW.out.lt p2 e).2; omega⟩
    · exact ⟨(World.cell?_setCell_other _ _ _ _ hnp).trans HM.out.cell, HM.out.map.setCell hhb _⟩
    · exact Or.inr ⟨by omega, HM.out.ltp⟩
    · exact Or.inr ⟨by omega, HM.out.map.lt⟩
    · intro i e
      rw [HT.out] at e
      have := HY.out.lt i e
      exact Or.inr this
    · intro i hi
      rw [World.size_setCell]
      rcases hi with hi | hi
      · have := HH.out.lt i hi; omega
      · exact hi.2
    · intro u hu; exact HH.out.wf u (List.mem_of_mem_take hu)
    · rw [HT.out]; exact Nat.le_refl _
    · rw [HT.out]; omega
  · have h4 : Off S0 W w4 := Off.of_below HB4.out
    exact (HOF.out.trans h4 (fun i hi => Or.inl hi)).trans (Off.setCell _ HH.out.sh _) (fun i hi => Or.inl hi)

end Go.Proofs.Ythcjcmalfnfjkaa
