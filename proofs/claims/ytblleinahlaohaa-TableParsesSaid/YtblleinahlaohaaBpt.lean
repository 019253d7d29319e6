/-
  What a table's Parse, and the document's, answer whatever comes in.
-/
import Derived.Test.YtblleinahlaohaaBpq
namespace Go.Proofs.Ytblleinahlaohaa
open Go.RowKit Go.Shelf
set_option linter.unusedVariables false
attribute [local go_sem ↓] Go.wp_at_zero Go.wp_at_succ

set_option maxRecDepth 100000 in
set_option maxHeartbeats 4000000 in
theorem parse_arg (nb sp : Int) (s : List UInt8) (w : World) (hm : ¬ MayBe nb sp) :
    Calls Try.prog 11 #[.string (S s), .int .i64 nb, .int .i64 sp] w fun e w' => e = .returned (.tuple #[.agg #[.int .i64 0, .int .i64 0, .slice none 0 0], .int .i64 2]) ∧ Below w.heap.size w w' := by
  have HM := Lib.hid hm
  clear hm
  go_enter Try.func11, Try.ntmps11
  go_upto_region 1 with (fail)
  have B6 := Lib.hid (BoxT.new (w := w) (nb := 0) (sp := 0) (sv := .slice none 0 0) (zs := []) rfl (Or.inl ⟨rfl, rfl⟩) 25)
  obtain ⟨W, hW⟩ : ∃ W, W = w.alloc (.cells #[.int .i64 0, .int .i64 0, .slice none 0 0] 25) := ⟨_, rfl⟩
  rw [← hW] at B6 ⊢
  have hX : Below w.heap.size w W := by rw [hW]; go_grown
  clear hW
  go_wp2_with fail
  refine (new_bad nb sp W HM.out).mono ?_
  rintro e w1 ⟨rfl, hB1⟩
  have B61 := Lib.hid (B6.out.on hB1)
  have HL1 := Lib.hid (hX.trans (hB1.mono hX.size))
  clear B6 hB1 hX
  go_upto_region 2 with (fail)
  have hX2 : Below w1.heap.size w1 (w1.alloc (.cells #[.int .i64 0, .int .i64 0, .slice none 0 0] 25)) := by go_grown
  have B62 := Lib.hid (B61.out.on hX2)
  have HL2 := Lib.hid (HL1.out.trans (hX2.mono HL1.out.size))
  obtain ⟨w2, hw2⟩ : ∃ w2, w2 = w1.alloc (.cells #[.int .i64 0, .int .i64 0, .slice none 0 0] 25) := ⟨_, rfl⟩
  rw [← hw2] at B62 HL2 ⊢
  clear hw2 hX2 B61 HL1
  obtain ⟨q0, q1, q2, rg, -⟩ := B62.out
  have rg0 := rg 0
  have rg1 := rg 1
  have rg2 := rg 2
  go_wp2_with fail
  obtain ⟨Z, hZ⟩ : ∃ Z, Z = ((w2.setCell ⟨w.heap.size, 0, none⟩ (.int .i64 0)).setCell ⟨w.heap.size, 1, none⟩ (.int .i64 0)).setCell ⟨w.heap.size, 2, none⟩ (.slice none 0 0) := ⟨_, rfl⟩
  obtain ⟨P1, P2⟩ := B62.out.put (nb' := 0) (sp' := 0) B62.out.ints (by simp [Value.ownBlock]) hZ
  rw [← hZ]
  obtain ⟨s0, s1, s2, -, si⟩ := P1
  exact bodyPost_ret (v := .tuple #[.agg #[.int .i64 0, .int .i64 0, .slice none 0 0], .int .i64 2]) (by simp [results, Try.results11, go_sem, s0, s1, s2]) rfl ⟨rfl, P2 _ _ HL2.out (Nat.le_refl _)⟩

set_option maxRecDepth 100000 in
set_option maxHeartbeats 4000000 in
theorem parse_short (nb sp : Int) (s : List UInt8) (w : World) (hm : MayBe nb sp) (h8 : s.length < 8) :
    Calls Try.prog 11 #[.string (S s), .int .i64 nb, .int .i64 sp] w fun e w' => e = .returned (.tuple #[.agg #[.int .i64 0, .int .i64 0, .slice none 0 0], .int .i64 4]) ∧ Below w.heap.size w w' := by
  obtain ⟨hn0, hn1, hs0, hs1⟩ := hm
  go_enter Try.func11, Try.ntmps11
  go_upto_region 1 with (fail)
  have B6 := Lib.hid (BoxT.new (w := w) (nb := 0) (sp := 0) (sv := .slice none 0 0) (zs := []) rfl (Or.inl ⟨rfl, rfl⟩) 25)
  obtain ⟨W, hW⟩ : ∃ W, W = w.alloc (.cells #[.int .i64 0, .int .i64 0, .slice none 0 0] 25) := ⟨_, rfl⟩
  rw [← hW] at B6 ⊢
  have hX : Below w.heap.size w W := by rw [hW]; go_grown
  clear hW
  go_wp2_with fail
  refine (new_ok nb sp W hn0 hn1 hs0 hs1).mono ?_
  rintro e w1 ⟨rfl, hB1⟩
  have B61 := Lib.hid (B6.out.on hB1)
  have HL1 := Lib.hid (hX.trans (hB1.mono hX.size))
  clear B6 hB1 hX
  go_upto_region 2 with (fail)
  have hX2 : Below w1.heap.size w1 (w1.alloc (.cells #[.int .i64 nb, .int .i64 sp, .slice none 0 0] 25)) := by go_grown
  have B62 := Lib.hid (B61.out.on hX2)
  have HL2 := Lib.hid (HL1.out.trans (hX2.mono HL1.out.size))
  obtain ⟨w2, hw2⟩ : ∃ w2, w2 = w1.alloc (.cells #[.int .i64 nb, .int .i64 sp, .slice none 0 0] 25) := ⟨_, rfl⟩
  rw [← hw2] at B62 HL2 ⊢
  clear hw2 hX2 B61 HL1
  go_wp2_with fail
  have hX3 : Below w2.heap.size w2 (w2.alloc (.cells #[.int .i64 8] 3)) := by go_grown
  have HW := Lib.hid (intsW_new w2 #[.int .i64 8] 3 (0, 0) [(8, 0)] rfl)
  refine (read_short (some ⟨w2.heap.size, 0, none⟩) 1 [(8, 0)] s _ HW.out (wide1 8 _ (by decide) (by decide)) (by simp) (by simp [sumW]; omega)).mono ?_
  rintro e w4 ⟨rfl, hw4⟩
  have B6 := Lib.hid (B62.out.on hX3)
  have HL := Lib.hid (HL2.out.trans (hX3.mono HL2.out.size))
  rw [hw4] at B6 HL
  clear hX3 HW hw4 B62 HL2
  go_wp2_with fail
  go_loopw [0, 11] (fun s ok wr => s = .string (S []) ∧ ok = .bool false ∧ wr = w4) (fun _ _ _ => 0)
  case atStart => exact ⟨rfl, rfl, rfl⟩
  case round =>
    obtain ⟨rfl, rfl, rfl⟩ := hrel
    go_upto_region 11 with (fail)
    obtain ⟨q0, q1, q2, rg, -⟩ := B6.out
    have rg0 := rg 0
    have rg1 := rg 1
    have rg2 := rg 2
    go_region
    go_wp2_with fail
    obtain ⟨Z, hZ⟩ : ∃ Z, Z = ((wr.setCell ⟨w.heap.size, 0, none⟩ (.int .i64 0)).setCell ⟨w.heap.size, 1, none⟩ (.int .i64 0)).setCell ⟨w.heap.size, 2, none⟩ (.slice none 0 0) := ⟨_, rfl⟩
    obtain ⟨P1, P2⟩ := B6.out.put (nb' := 0) (sp' := 0) B6.out.ints (by simp [Value.ownBlock]) hZ
    rw [← hZ]
    obtain ⟨s0, s1, s2, -, si⟩ := P1
    exact bodyPost_ret (v := .tuple #[.agg #[.int .i64 0, .int .i64 0, .slice none 0 0], .int .i64 4]) (by simp [results, Try.results11, go_sem, s0, s1, s2]) rfl ⟨rfl, below_drew' (P2 _ _ HL.out (Nat.le_refl _))⟩

/-- The error at bytes of no table. -/
def errT (nb sp : Int) : Int := if MayBe nb sp then 4 else 2
theorem errT_ne (nb sp : Int) : errT nb sp ≠ 0 := by unfold errT; split <;> decide

theorem parse_any (nb sp : Int) (s : List UInt8) (w : World) (hl : s.length ≤ 1000) :
    Calls Try.prog 11 #[.string (S s), .int .i64 nb, .int .i64 sp] w fun e w' => ((∃ v' zs, MayBe nb sp ∧ GoodT nb sp s zs ∧ e = .returned (.tuple #[.agg #[.int .i64 nb, .int .i64 sp, v'], .int .i64 0]) ∧ Ints w'.heap.size w' v' zs) ∨ (¬ (MayBe nb sp ∧ ∃ zs, GoodT nb sp s zs) ∧ e = .returned (.tuple #[.agg #[.int .i64 0, .int .i64 0, .slice none 0 0], .int .i64 (errT nb sp)]))) ∧ Below w.heap.size w w' := by
  by_cases hm : MayBe nb sp
  · have he : errT nb sp = 4 := if_pos hm
    rw [he]
    by_cases hg : ∃ zs, GoodT nb sp s zs
    · obtain ⟨zs, hg⟩ := hg
      have hs := hg.1
      subst hs
      exact (parse_text nb sp zs w ⟨hm.1, hm.2.1⟩ ⟨hm.2.2.1, hm.2.2.2⟩ hg.2.1 hg.2.2).mono fun e w' ⟨⟨v', h1, h2, _⟩, hb⟩ => ⟨Or.inl ⟨v', zs, hm, hg, h1, h2⟩, hb⟩
    · by_cases h8 : 8 ≤ s.length
      · exact (parse_no nb sp s w hm h8 hl (fun zs h => hg ⟨zs, h⟩)).mono fun e w' ⟨h1, hb⟩ => ⟨Or.inr ⟨fun h => hg h.2, h1⟩, hb⟩
      · exact (parse_short nb sp s w hm (by omega)).mono fun e w' ⟨h1, hb⟩ => ⟨Or.inr ⟨fun h => hg h.2, h1⟩, hb⟩
  · have he : errT nb sp = 2 := if_neg hm
    rw [he]
    exact (parse_arg nb sp s w hm).mono fun e w' ⟨h1, hb⟩ => ⟨Or.inr ⟨fun h => hm h.1, h1⟩, hb⟩

theorem refParse_any (nb sp : Int) (s : List UInt8) (w : World) (hl : s.length ≤ 1000) :
    Calls Try.prog 19 #[.string (S s), .int .i64 nb, .int .i64 sp] w fun e w' => ((∃ v' zs, MayBe nb sp ∧ GoodT nb sp s zs ∧ e = .returned (.tuple #[v', .int .i64 0]) ∧ Ints w'.heap.size w' v' zs) ∨ (¬ (MayBe nb sp ∧ ∃ zs, GoodT nb sp s zs) ∧ e = .returned (.tuple #[.slice none 0 0, .int .i64 (errT nb sp)]))) ∧ Below w.heap.size w w' := by
  by_cases hm : MayBe nb sp
  · have he : errT nb sp = 4 := if_pos hm
    rw [he]
    by_cases hf : ∃ zs, FormT sp s zs
    · obtain ⟨zs, hf⟩ := hf
      refine (refParse_text nb sp s zs w hm hf).mono fun e w' ⟨h, hb⟩ => ⟨?_, hb⟩
      rcases h with ⟨v', h1, h2, h3⟩ | ⟨h1, h2⟩
      · exact Or.inl ⟨v', zs, hm, h3, h1, h2⟩
      · exact Or.inr ⟨fun ⟨_, zs', h⟩ => h2 (by rw [hf.inj (h.form hm.2.1)]; exact h), h1⟩
    · exact (refParse_form nb sp s w hm hl hf).mono fun e w' ⟨h1, hb⟩ => ⟨Or.inr ⟨fun ⟨_, zs', h⟩ => hf ⟨zs', h.form hm.2.1⟩, h1⟩, hb⟩
  · have he : errT nb sp = 2 := if_neg hm
    rw [he]
    exact (refParse_arg nb sp s w hm).mono fun e w' ⟨h1, hb⟩ => ⟨Or.inr ⟨fun h => hm h.1, h1⟩, hb⟩

theorem GoodT.inj {nb sp : Int} {s : List UInt8} {a b : List Int} (hm : MayBe nb sp) (h : GoodT nb sp s a) (k : GoodT nb sp s b) : a = b := (h.form hm.2.1).inj (k.form hm.2.1)

end Go.Proofs.Ytblleinahlaohaa
