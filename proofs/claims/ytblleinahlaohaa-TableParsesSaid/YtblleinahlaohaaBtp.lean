/-
  The walk of TableParses.
-/
import Derived.Test.YtblleinahlaohaaBpt
import Derived.Test.YtblleinahlaohaaZla
namespace Go.Proofs.Ytblleinahlaohaa
open Go.RowKit Go.Shelf
set_option linter.unusedVariables false
attribute [local go_sem ↓] Go.wp_at_zero Go.wp_at_succ

theorem bmax0 (x : Int) : ∃ y : Nat, bmax 0 x = (y : Int) := ⟨x.toNat, by unfold bmax; split <;> omega⟩

set_option maxRecDepth 100000 in
set_option maxHeartbeats 16000000 in
theorem tableParses_walk (l : List UInt8) (bl sl : Int) (w : World) (hl : (l.length : Int) ≤ 9223372036854775807) :
    Calls Try.prog 6 #[.string (S l), .int .i64 bl, .int .i64 sl] w fun e w' => e = .returned (.bool true) ∧ Below w.heap.size w w' := by
  have hmin := fun ts t a b w => run_tmin (P := Try.prog) ts t a b w
  have hmax := fun ts t a b w => run_bmax (P := Try.prog) ts t a b w
  have hm1 : tmin (l.length : Int) 90 = ((min l.length 90 : Nat) : Int) := tmin_nat l.length 90
  obtain ⟨m, hm⟩ : ∃ m, m = min l.length 90 := ⟨_, rfl⟩
  rw [← hm] at hm1
  have hcut := fun w => take_str l m (by omega) w
  obtain ⟨y, hy⟩ := bmax0 bl
  obtain ⟨z, hz⟩ := bmax0 sl
  have hw1 : IntKind.i64.wrap (1 + (y : Int) % 40) = 1 + (y : Int) % 40 := IntWalk.i64_in _ (by omega)
  have hsl : (l.take m).length ≤ 90 := by rw [List.length_take]; omega
  have hsz : (S l).size = l.length := S_size l
  clear hm
  go_enter Try.func6, Try.ntmps6
  go_upto_region 3 with (fail)
  obtain ⟨n1, hn1⟩ : ∃ n1, n1 = 1 + (y : Int) % 40 := ⟨_, rfl⟩
  obtain ⟨s1, hs1⟩ : ∃ s1, s1 = (z : Int) % 33 := ⟨_, rfl⟩
  rw [← hn1, ← hs1]
  clear hn1 hs1 hy hz hw1
  obtain ⟨s, hs⟩ : ∃ s, s = l.take m := ⟨_, rfl⟩
  rw [← hs] at hsl ⊢
  clear hs hcut
  obtain ⟨W, hW⟩ : ∃ W, W = w.alloc (.cells #[.int .i64 bl, .int .i64 sl, .int .i64 n1, .int .i64 s1] 46) := ⟨_, rfl⟩
  have HC := Lib.hid (show W.cell? ⟨w.heap.size, 0, none⟩ = some (.int .i64 bl) ∧ W.cell? ⟨w.heap.size, 1, none⟩ = some (.int .i64 sl) ∧ W.cell? ⟨w.heap.size, 2, none⟩ = some (.int .i64 n1) ∧ W.cell? ⟨w.heap.size, 3, none⟩ = some (.int .i64 s1) by rw [hW]; refine ⟨?_, ?_, ?_, ?_⟩ <;> (rw [World.cell?_alloc_at _ _ _ _ rfl]; rfl))
  have HL := Lib.hid (show Below w.heap.size w W by rw [hW]; go_grown)
  rw [← hW]
  clear hW
  go_loopw [31] (fun i wr => ∃ j : Nat, i = .int .i64 j ∧ j ≤ 2 ∧ Hid (wr.cell? ⟨w.heap.size, 0, none⟩ = some (.int .i64 bl) ∧ wr.cell? ⟨w.heap.size, 1, none⟩ = some (.int .i64 sl) ∧ wr.cell? ⟨w.heap.size, 2, none⟩ = some (.int .i64 n1) ∧ wr.cell? ⟨w.heap.size, 3, none⟩ = some (.int .i64 s1)) ∧ Hid (Below w.heap.size w wr)) (fun i _ => 2 - (intOf i).toNat)
  case atStart => exact ⟨0, rfl, by omega, HC, HL⟩
  case round =>
    obtain ⟨j, rfl, hj, HC, HL⟩ := hrel
    have hj0 : (0 : Int) ≤ (j : Int) := Int.natCast_nonneg _
    obtain ⟨c0, c1, c2, c3⟩ := HC.out
    rcases Nat.lt_or_ge j 1 with h1 | h1
    case' inl => 
      obtain rfl : j = 0 := by omega
      go_upto_region 5 with (fail)
      obtain ⟨nb, hnb⟩ : ∃ nb, nb = bl := ⟨_, rfl⟩
      obtain ⟨sp, hsp⟩ : ∃ sp, sp = sl := ⟨_, rfl⟩
      rw [← hnb, ← hsp]
    case' inr =>
      rcases Nat.lt_or_ge j 2 with h2 | h2
      case' inl => 
        obtain rfl : j = 1 := by omega
        go_upto_region 5 with (fail)
        obtain ⟨nb, hnb⟩ : ∃ nb, nb = n1 := ⟨_, rfl⟩
        obtain ⟨sp, hsp⟩ : ∃ sp, sp = s1 := ⟨_, rfl⟩
        rw [← hnb, ← hsp]
      case' inr => 
        obtain rfl : j = 2 := by omega
        go_wp2_with fail
        refine (wakes06 wr).mono ?_
        rintro e w3 ⟨rfl, hB3⟩
        have hbb := HL.out.trans (hB3.mono HL.out.size)
        go_wp2_with fail
        go_ret
        exact ⟨rfl, hbb⟩
    all_goals
      have HNB := Lib.hid hnb
      have HSP := Lib.hid hsp
      clear hnb hsp
      have hX1 : Below wr.heap.size wr (wr.alloc (.cells #[.int .i64 nb, .int .i64 sp] 46)) := by go_grown
      have HL1 := Lib.hid (HL.out.trans (hX1.mono HL.out.size))
      have D1 := Lib.hid (show (wr.alloc (.cells #[.int .i64 nb, .int .i64 sp] 46)).cell? ⟨wr.heap.size, 0, none⟩ = some (.int .i64 nb) ∧ (wr.alloc (.cells #[.int .i64 nb, .int .i64 sp] 46)).cell? ⟨wr.heap.size, 1, none⟩ = some (.int .i64 sp) by refine ⟨?_, ?_⟩ <;> (rw [World.cell?_alloc_at _ _ _ _ rfl]; rfl))
      have HC1 := Lib.hid (And.intro (kept_cell hX1 c0) (And.intro (kept_cell hX1 c1) (And.intro (kept_cell hX1 c2) (kept_cell hX1 c3))))
      obtain ⟨w1, hw1⟩ : ∃ w1, w1 = wr.alloc (.cells #[.int .i64 nb, .int .i64 sp] 46) := ⟨_, rfl⟩
      have hz1 := HL.out.size
      rw [← hw1] at HL1 D1 HC1 ⊢
      clear hw1 hX1 HC HL c0 c1 c2 c3
      obtain ⟨d0, d1⟩ := D1.out
      go_wp2_with fail
      refine (parse_any nb sp s w1 (by omega)).mono ?_
      rintro e w2 ⟨hcase, hB2⟩
      obtain ⟨c0, c1, c2, c3⟩ := HC1.out
      have HC2 := Lib.hid (And.intro (kept_cell hB2 c0) (And.intro (kept_cell hB2 c1) (And.intro (kept_cell hB2 c2) (kept_cell hB2 c3))))
      have D2 := Lib.hid (And.intro (kept_cell hB2 d0) (kept_cell hB2 d1))
      have HL2 := Lib.hid (HL1.out.trans (hB2.mono HL1.out.size))
      clear hB2 c0 c1 c2 c3 d0 d1 HC1 D1 HL1
      rcases hcase with ⟨v', zs, hmay, hgood, rfl, hi⟩ | ⟨hno, rfl⟩
      · obtain ⟨va, vc, rfl⟩ := hi.len
        obtain ⟨sn, hsn⟩ : ∃ sn, sn = zs.length := ⟨_, rfl⟩
        rw [← hsn] at hi ⊢
        have HSN := Lib.hid hsn
        have HM := Lib.hid hmay
        have HG := Lib.hid hgood
        clear hsn hmay hgood
        go_upto_region 6 with (fail)
        have hX2 : Below w2.heap.size w2 (w2.alloc (.cells #[.int .i64 nb, .int .i64 sp, .slice va sn vc] 25)) := by go_grown
        have BT := Lib.hid (BoxT.new (w := w2) (nb := nb) (sp := sp) (sv := .slice va sn vc) (zs := zs) rfl hi 25)
        obtain ⟨c0, c1, c2, c3⟩ := HC2.out
        obtain ⟨d0, d1⟩ := D2.out
        have HC3 := Lib.hid (And.intro (kept_cell hX2 c0) (And.intro (kept_cell hX2 c1) (And.intro (kept_cell hX2 c2) (kept_cell hX2 c3))))
        have D3 := Lib.hid (And.intro (kept_cell hX2 d0) (kept_cell hX2 d1))
        have HL3 := Lib.hid (HL2.out.trans (hX2.mono HL2.out.size))
        obtain ⟨w3, hw3⟩ : ∃ w3, w3 = w2.alloc (.cells #[.int .i64 nb, .int .i64 sp, .slice va sn vc] 25) := ⟨_, rfl⟩
        rw [← hw3] at HL3 D3 HC3 BT ⊢
        clear hw3 hX2 HC2 HL2 D2 hi c0 c1 c2 c3 d0 d1
        obtain ⟨d0, d1⟩ := D3.out
        go_wp2_with fail
        refine (refParse_any nb sp s w3 (by omega)).mono ?_
        rintro e w4 ⟨hcase, hB4⟩
        obtain ⟨c0, c1, c2, c3⟩ := HC3.out
        have HC4 := Lib.hid (And.intro (kept_cell hB4 c0) (And.intro (kept_cell hB4 c1) (And.intro (kept_cell hB4 c2) (kept_cell hB4 c3))))
        have D4 := Lib.hid (And.intro (kept_cell hB4 d0) (kept_cell hB4 d1))
        have B4 := Lib.hid (BT.out.on hB4)
        have HL4 := Lib.hid (HL3.out.trans (hB4.mono HL3.out.size))
        clear hB4 c0 c1 c2 c3 d0 d1 HC3 D3 HL3 BT
        rcases hcase with ⟨m', zs', -, hgood', rfl, hi'⟩ | ⟨hno, rfl⟩
        · obtain rfl : zs' = zs := GoodT.inj HM.out hgood' HG.out
          obtain ⟨ma, mc, rfl⟩ := hi'.len
          rw [← HSN.out] at hi' ⊢
          have HI4 := Lib.hid hi'
          clear hi' hgood'
          obtain ⟨d0, d1⟩ := D4.out
          obtain ⟨k0, k1, k2, -, -⟩ := B4.out
          go_wp2_with fail
          refine (same06 nb sp (.slice va sn vc) (.slice ma sn mc) zs' w4 HM.out B4.out.ints HI4.out (fun z hz => HG.out.2.1 z hz) HG.out.2.2).mono ?_
          rintro e w5 ⟨rfl, hB5⟩
          obtain ⟨c0, c1, c2, c3⟩ := HC4.out
          have HC5 := Lib.hid (And.intro (kept_cell hB5 c0) (And.intro (kept_cell hB5 c1) (And.intro (kept_cell hB5 c2) (kept_cell hB5 c3))))
          have HL5 := Lib.hid (HL4.out.trans (hB5.mono HL4.out.size))
          clear hB5 c0 c1 c2 c3 d0 d1 k0 k1 k2 HC4 D4 HL4 B4
          obtain rfl := HNB.out
          obtain rfl := HSP.out
          go_wp2_with fail
          first | exact ⟨⟨1, by go_num, by omega, HC5, HL5⟩, by simp [intOf]⟩ | exact ⟨⟨2, by go_num, by omega, HC5, HL5⟩, by simp [intOf]⟩
        · exact absurd ⟨HM.out, zs, HG.out⟩ hno
      · have HNO := Lib.hid hno
        clear hno
        go_upto_region 6 with (fail)
        have hX2 : Below w2.heap.size w2 (w2.alloc (.cells #[.int .i64 0, .int .i64 0, .slice none 0 0] 25)) := by go_grown
        have BT := Lib.hid (BoxT.new (w := w2) (nb := 0) (sp := 0) (sv := .slice none 0 0) (zs := []) rfl (Or.inl ⟨rfl, rfl⟩) 25)
        obtain ⟨c0, c1, c2, c3⟩ := HC2.out
        obtain ⟨d0, d1⟩ := D2.out
        have HC3 := Lib.hid (And.intro (kept_cell hX2 c0) (And.intro (kept_cell hX2 c1) (And.intro (kept_cell hX2 c2) (kept_cell hX2 c3))))
        have D3 := Lib.hid (And.intro (kept_cell hX2 d0) (kept_cell hX2 d1))
        have HL3 := Lib.hid (HL2.out.trans (hX2.mono HL2.out.size))
        obtain ⟨w3, hw3⟩ : ∃ w3, w3 = w2.alloc (.cells #[.int .i64 0, .int .i64 0, .slice none 0 0] 25) := ⟨_, rfl⟩
        rw [← hw3] at HL3 D3 HC3 BT ⊢
        clear hw3 hX2 HC2 HL2 D2 c0 c1 c2 c3 d0 d1
        obtain ⟨d0, d1⟩ := D3.out
        go_wp2_with fail
        refine (refParse_any nb sp s w3 (by omega)).mono ?_
        rintro e w4 ⟨hcase, hB4⟩
        obtain ⟨c0, c1, c2, c3⟩ := HC3.out
        have HC4 := Lib.hid (And.intro (kept_cell hB4 c0) (And.intro (kept_cell hB4 c1) (And.intro (kept_cell hB4 c2) (kept_cell hB4 c3))))
        have B4 := Lib.hid (BT.out.on hB4)
        have HL4 := Lib.hid (HL3.out.trans (hB4.mono HL3.out.size))
        clear hB4 c0 c1 c2 c3 d0 d1 HC3 D3 HL3 BT
        rcases hcase with ⟨m', zs', hm', hgood', rfl, hi'⟩ | ⟨-, rfl⟩
        · exact absurd ⟨hm', zs', hgood'⟩ HNO.out
        · have hev := errT_ne nb sp
          generalize errT nb sp = ev at *
          obtain ⟨k0, k1, k2, -, -⟩ := B4.out
          go_wp2_with fail
          refine (blocks_any 0 0 none 0 0 w4).mono ?_
          rintro e w5 ⟨rfl, hB5⟩
          obtain ⟨c0, c1, c2, c3⟩ := HC4.out
          have HC5 := Lib.hid (And.intro (kept_cell hB5 c0) (And.intro (kept_cell hB5 c1) (And.intro (kept_cell hB5 c2) (kept_cell hB5 c3))))
          have HL5 := Lib.hid (HL4.out.trans (hB5.mono HL4.out.size))
          clear hB5 c0 c1 c2 c3 k0 k1 k2 HC4 HL4 B4
          obtain rfl := HNB.out
          obtain rfl := HSP.out
          go_wp2_with fail
          first | exact ⟨⟨1, by go_num, by omega, HC5, HL5⟩, by simp [intOf]⟩ | exact ⟨⟨2, by go_num, by omega, HC5, HL5⟩, by simp [intOf]⟩

end Go.Proofs.Ytblleinahlaohaa
