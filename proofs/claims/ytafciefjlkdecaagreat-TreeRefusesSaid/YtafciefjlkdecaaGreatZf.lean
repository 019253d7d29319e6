/-
  The walks of buf.Parse, and of the document's Parse of layer 15.
  The walks of the look for a key among entries: the comparison, the binary search.
  The walk of slices.Clone at entries; slices as arguments.
  The walks of a value that holds entries: how many, the list, the place of a key.
  The walk of slices.Insert of one element into a row of the call's own, at entries.
  The walk of slices.Delete of one element of a row of the call's own, at entries.
  The walk of (*leaf.Leaf).on: what an update makes of a leaf in its box.
-/
import Derived.Test.YtafciefjlkdecaaGreatZe
import Derived.Test.YtafciefjlkdecaaGreatZa
import Derived.Lib.Walk
import Derived.Outline
import Derived.Test.YtafciefjlkdecaaGreatZc
import Derived.Deep.RegionHeld3
import Derived.Deep.DrawnRows
namespace Go.Proofs.YtafciefjlkdecaaGreat
open Go.RowKit
attribute [local go_sem ↓] Go.wp_at_zero Go.wp_at_succ

theorem parseU_bad {s : List UInt8} (h : (recU s).2 = 4) : parseU s = ([], 4) := by rw [parseU_of, if_neg (by omega), h]
theorem parseU_wild {s : List UInt8} (h : (recU s).2 = 0) (k : risingB (recU s).1 = false) : parseU s = ([], 4) := by rw [parseU_of, if_pos h, if_neg (by simp [k])]
theorem parseU_good {s : List UInt8} (h : (recU s).2 = 0) (k : risingB (recU s).1 = true) : parseU s = ((recU s).1, 0) := by rw [parseU_of, if_pos h, if_pos k]

abbrev BufBox : Obj := .cells #[.slice none 0 0] 103

set_option maxRecDepth 100000 in
set_option maxHeartbeats 4000000 in
theorem bufParse_any (s0 : List UInt8) (hl : s0.length ≤ 900000) (w : World) :
    Calls Tryz.prog 116 #[.string (S s0)] w fun e w' => BfRes w.heap.size (parseU s0) e w' ∧ Below w.heap.size w w' := by
  have hrp := fun W => recParse_any s0 hl W
  have h2 := recU_two s0
  have hal := recU_all s0
  have hb := Lib.hid (@parseU_bad s0)
  have hw := Lib.hid (@parseU_wild s0)
  have hg := Lib.hid (@parseU_good s0)
  generalize recU s0 = Q at *
  generalize parseU s0 = P at *
  obtain ⟨L, n⟩ := Q
  dsimp only at h2 hal
  have HRP := Lib.hid hrp
  have hL : L.length ≤ 900000 := by omega
  clear hrp hal
  rcases h2 with rfl | ⟨rfl, rfl⟩
  · have hof := Lib.hid (ofU_yes (l := L))
    have hon := Lib.hid (ofU_no (l := L))
    cases hr : risingB L with
    | true =>
      have HP := Lib.hid (hg.out rfl hr)
      have HF := Lib.hid (hof.out ((risingB_iff L).1 hr))
      clear hb hw hg hr hof hon
      go_enter Tryz.func116, Tryz.ntmps116
      go_wp2_with fail
      refine (thread (HRP.out _) (w.heap.size + 1) (w.alloc BufBox) (Below.refl _ _) (by simp)).mono ?_
      rintro e w1 ⟨⟨a1, c1, rfl, ho1⟩, hB1, -, -, -, hz1⟩
      dsimp only at ho1
      have hof1 := bufOf_any a1 L.length c1 L w1 rfl (by omega) (SlU.of_own ho1).2
      rw [HF.out] at hof1
      have HOF := Lib.hid hof1
      clear ho1 hof1 HRP
      have hz0 : w.heap.size < w1.heap.size := by omega
      go_wp2_with fail
      refine (thread HOF.out w1.heap.size w1 (Below.refl _ _) (Nat.le_refl _)).mono ?_
      rintro e w2 ⟨⟨a2, c2, rfl, ho2⟩, hX2, -, -, -, hz2⟩
      dsimp only at ho2
      have hB2 := hB1.trans (hX2.mono hz1)
      have p2 : w2.cell? ⟨w.heap.size, 0, none⟩ = some (.slice none 0 0) := (hB2.cell (p := ⟨w.heap.size, 0, none⟩) (Nat.lt_succ_self _)).trans (by simp)
      have pf2 : w2.frozen? ⟨w.heap.size, 0, none⟩ = false := (hB2.frozen (p := ⟨w.heap.size, 0, none⟩) (Nat.lt_succ_self _)).trans (by simp)
      have HO2 := Lib.hid ho2
      have HB2 := Lib.hid ((Below.alloc (Below.refl _ w) (Nat.le_refl _) BufBox).trans (hB2.mono (Nat.le_succ _)))
      have hlt2 : w.heap.size < w2.heap.size := by omega
      clear ho2 hB1 hB2 hX2 HOF
      go_wp2_with fail
      have pz := cell_past (.cells #[.slice a2 L.length c2] 103) (show (w2.setCell ⟨w.heap.size, 0, none⟩ (.slice a2 L.length c2)).cell? ⟨w.heap.size, 0, none⟩ = some (.slice a2 L.length c2) from World.cell?_setCell_same w2 _ _ p2)
      refine bodyPost_ret (v := .tuple #[.agg #[.slice a2 L.length c2], .int .i64 0]) (by simp [results, Tryz.results116, go_sem, pz]) rfl ⟨?_, ?_⟩
      · rw [HP.out]
        exact ⟨a2, c2, rfl, own_base ((ownsRow_setCell_other (a := ⟨w.heap.size, 0, none⟩) HO2.out (fun e => by have h : w1.heap.size ≤ w.heap.size := (HO2.out.lt _ e).1; omega) _).alloc _) (by omega)⟩
      · exact ((HB2.out).setCell (p := ⟨w.heap.size, 0, none⟩) (Nat.le_refl _) _).alloc (by rw [World.size_setCell]; omega) _
    | false =>
      have HP := Lib.hid (hw.out rfl hr)
      have HF := Lib.hid (hon.out (fun h => by rw [(risingB_iff L).2 h] at hr; exact absurd hr (by simp)))
      clear hb hw hg hr hof hon
      go_enter Tryz.func116, Tryz.ntmps116
      go_wp2_with fail
      refine (thread (HRP.out _) (w.heap.size + 1) (w.alloc BufBox) (Below.refl _ _) (by simp)).mono ?_
      rintro e w1 ⟨⟨a1, c1, rfl, ho1⟩, hB1, -, -, -, hz1⟩
      dsimp only at ho1
      have hof1 := bufOf_any a1 L.length c1 L w1 rfl (by omega) (SlU.of_own ho1).2
      rw [HF.out] at hof1
      have HOF := Lib.hid hof1
      clear ho1 hof1 HRP
      have hz0 : w.heap.size < w1.heap.size := by omega
      go_wp2_with fail
      refine (thread HOF.out w1.heap.size w1 (Below.refl _ _) (Nat.le_refl _)).mono ?_
      rintro e w2 ⟨⟨a2, c2, rfl, ho2⟩, hX2, -, -, -, hz2⟩
      have hB2 := hB1.trans (hX2.mono hz1)
      have p2 : w2.cell? ⟨w.heap.size, 0, none⟩ = some (.slice none 0 0) := (hB2.cell (p := ⟨w.heap.size, 0, none⟩) (Nat.lt_succ_self _)).trans (by simp)
      have pf2 : w2.frozen? ⟨w.heap.size, 0, none⟩ = false := (hB2.frozen (p := ⟨w.heap.size, 0, none⟩) (Nat.lt_succ_self _)).trans (by simp)
      have HB2 := Lib.hid ((Below.alloc (Below.refl _ w) (Nat.le_refl _) BufBox).trans (hB2.mono (Nat.le_succ _)))
      have hlt2 : w.heap.size < w2.heap.size := by omega
      clear ho2 hB1 hB2 hX2 HOF
      go_wp2_with fail
      have pz := fun o => cell_past o (show (w2.setCell ⟨w.heap.size, 0, none⟩ (.slice none 0 0)).cell? ⟨w.heap.size, 0, none⟩ = some (.slice none 0 0) from World.cell?_setCell_same w2 _ _ p2)
      refine bodyPost_ret (v := .tuple #[.agg #[.slice none 0 0], .int .i64 4]) (by simp [results, Tryz.results116, go_sem, pz]) rfl ⟨?_, ?_⟩
      · rw [HP.out]
        exact BfRes.none _ _ _ _ rfl
      · exact ((HB2.out).setCell (p := ⟨w.heap.size, 0, none⟩) (Nat.le_refl _) _).alloc (by rw [World.size_setCell]; omega) _
  · have HP := Lib.hid (hb.out rfl)
    clear hb hw hg
    go_enter Tryz.func116, Tryz.ntmps116
    go_wp2_with fail
    refine (thread (HRP.out _) (w.heap.size + 1) (w.alloc BufBox) (Below.refl _ _) (by simp)).mono ?_
    rintro e w1 ⟨⟨a1, c1, rfl, ho1⟩, hB1, -, -, -, hz1⟩
    have p2 : w1.cell? ⟨w.heap.size, 0, none⟩ = some (.slice none 0 0) := (hB1.cell (p := ⟨w.heap.size, 0, none⟩) (Nat.lt_succ_self _)).trans (by simp)
    have pf2 : w1.frozen? ⟨w.heap.size, 0, none⟩ = false := (hB1.frozen (p := ⟨w.heap.size, 0, none⟩) (Nat.lt_succ_self _)).trans (by simp)
    have HB2 := Lib.hid ((Below.alloc (Below.refl _ w) (Nat.le_refl _) BufBox).trans (hB1.mono (Nat.le_succ _)))
    clear ho1 hB1 HRP
    go_wp2_with fail
    refine bodyPost_ret (v := .tuple #[.agg #[.slice none 0 0], .int .i64 4]) (by simp [results, Tryz.results116, go_sem, p2]) rfl ⟨?_, ?_⟩
    · rw [HP.out]
      exact BfRes.none _ _ _ _ rfl
    · exact (HB2.out).setCell (p := ⟨w.heap.size, 0, none⟩) (Nat.le_refl _) _

theorem SlU.of_row {w : World} {B n : Nat} {E : TypeId} {v : Value} {l : List Upd} (h : w.ownsRow B E 4 v n (cellsU l)) : l.length = n ∧ SlU w v l := by
  have hn := h.1
  rw [cellsU_len] at hn
  have hn' : l.length = n := by omega
  subst hn'
  refine ⟨rfl, ?_⟩
  rcases ownsRow_open h with ⟨rfl, h0, -⟩ | ⟨g, cap, cur, rfl, -, hr, h3, h4, h5, h6⟩
  · obtain rfl := List.eq_nil_of_length_eq_zero h0
    exact SlU.nil w
  · refine ⟨_, cap, rfl, Or.inr ⟨g, 0, rfl, hr.lt, fun i hi j x hx => ?_⟩, h3, by unfold maxLen at h4; omega, fun e => by simp at e⟩
    have hj : j < 4 := (List.getElem?_eq_some_iff.1 hx).1
    have e := cellsU_get l i hi j x hx
    rw [hr.cell, Nat.zero_add, ← e, ← h6, List.getElem?_take, if_pos (by omega)]

end Go.Proofs.YtafciefjlkdecaaGreat

namespace Go.Proofs.YtafciefjlkdecaaGreat
open Go.RowKit

set_option maxHeartbeats 400000 in
theorem find1E (u : Ent) (k : List UInt8) (w : World) :
    Calls Tryz.prog 119 #[.agg #[.string (S u.key), .string (S u.val)], .string (S k)] w fun e w' => e = .returned (.int .i64 (cmpZ u.key k)) ∧ Below w.heap.size w w' := by
  go_enter Tryz.func119, Tryz.ntmps119
  go_wp2_with (go_at_call 120; refine (compare_any _ _ _).mono ?_; rintro e w' ⟨rfl, rfl⟩)
  go_ret
  exact ⟨rfl, by go_grown⟩

set_option maxRecDepth 100000 in
set_option maxHeartbeats 2000000 in
theorem searchE (ao : Option Addr) (c : Nat) (l : List Ent) (k : List UInt8) (w : World) (hs : SlAt Ent.cells 2 w ao l) (hl : l.length ≤ 1000000) (hr : Rising Ent.key l) :
    Calls Tryz.prog 118 #[.slice ao l.length c, .string (S k), .func (.func 119) #[] #[]] w fun e w' => e = .returned (.tuple #[.int .i64 (below Ent.key l k : Nat), .bool (hasKey Ent.key l k)]) ∧ Below w.heap.size w w' := by
  have hbl := below_le (key := Ent.key) l k
  go_enter Tryz.func118, Tryz.ntmps118
  go_wp2_with fail
  go_loopw [9, 10] (fun i j wr => ∃ a b : Nat, i = .int .i64 a ∧ j = .int .i64 b ∧ a ≤ below Ent.key l k ∧ below Ent.key l k ≤ b ∧ b ≤ l.length ∧ Below w.heap.size w wr) (fun i j _ => (intOf j).toNat - (intOf i).toNat)
  case atStart => exact ⟨0, l.length, rfl, rfl, Nat.zero_le _, hbl, Nat.le_refl _, Below.refl _ _⟩
  case round =>
    obtain ⟨a, b, rfl, rfl, ha, hb, hbn, hB⟩ := hrel
    have hB0 := hB.size
    by_cases hab : a < b
    · have hab' : (a : Int) < (b : Int) := by omega
      have hh : (a + b) / 2 < l.length := by omega
      obtain ⟨bk, off, rfl, hbk, hcs⟩ := (hs.kept hB (Nat.le_refl _)).at (by omega)
      obtain ⟨c0, c1⟩ := entCells hcs ((a + b) / 2) hh
      have hR := hr.below k ((a + b) / 2) hh
      clear hcs
      generalize l[(a + b) / 2] = u at *
      have hi0 : (0 : Int) ≤ ((a : Int) + (b : Int)) / 2 := by omega
      have hi1 : ((a : Int) + (b : Int)) / 2 < (l.length : Int) := by omega
      cases hq : bl u.key k with
      | true =>
        have hz := cmpZ_lt hq
        have hlt : (a + b) / 2 < below Ent.key l k := hR.1 hq
        clear hR hq
        go_wp2_with (go_at_call 119; refine (thread (find1E u k _) w.heap.size w (by go_grown) (by go_grown)).mono ?_; rw [hz]; rintro e w1 ⟨rfl, hB1, -, -, hs1, hz1⟩)
        go_roundw
        case rel => exact ⟨(a + b) / 2 + 1, b, by go_num, rfl, by omega, hb, hbn, hB1⟩
        case measure => simp [intOf]; omega
      | false =>
        have hz := cmpZ_ge hq
        have hge : below Ent.key l k ≤ (a + b) / 2 := by
          have := mt hR.2 (by rw [hq]; simp)
          omega
        clear hR hq
        have hzz : ∃ z, Hid (cmpZ u.key k = z) ∧ ¬ z < 0 := ⟨_, Lib.hid rfl, by omega⟩
        obtain ⟨z, hzz, hz0⟩ := hzz
        clear hz
        go_wp2_with (go_at_call 119; refine (thread (find1E u k _) w.heap.size w (by go_grown) (by go_grown)).mono ?_; rw [hzz.out]; rintro e w1 ⟨rfl, hB1, -, -, hs1, hz1⟩)
        go_roundw
        case rel => exact ⟨a, (a + b) / 2, rfl, by go_num, ha, hge, by omega, hB1⟩
        case measure => simp [intOf]; omega
    · have hab' : ¬ (a : Int) < (b : Int) := by omega
      obtain rfl : a = below Ent.key l k := by omega
      have hf := hr.found k
      by_cases hin : below Ent.key l k < l.length
      · obtain ⟨bk, off, rfl, hbk, hcs⟩ := (hs.kept hB (Nat.le_refl _)).at (by omega)
        obtain ⟨c0, c1⟩ := entCells hcs _ hin
        clear hcs hr hs
        have hin' : ((below Ent.key l k : Nat) : Int) < (l.length : Int) := by omega
        have hin0 : (0 : Int) ≤ ((below Ent.key l k : Nat) : Int) := by omega
        generalize hu : l[below Ent.key l k] = u at *
        by_cases he : u.key = k
        · have hk : Hid (hasKey Ent.key l k = true) := Lib.hid (hf.2 ⟨hin, by rw [hu]; exact he⟩)
          have hz := cmpZ_zero.2 he
          clear hf hu he
          generalize hidx : below Ent.key l k = i at *
          have hidx' := Lib.hid hidx
          clear hidx
          go_wp2_with (go_at_call 119; refine (thread (find1E u k _) w.heap.size w (by go_grown) (by go_grown)).mono ?_; rw [hz]; rintro e w1 ⟨rfl, hB1, -, -, hs1, hz1⟩)
          go_ret2
          exact ⟨ret_val (by rw [hidx'.out, hk.out]; rfl), hB1⟩
        · have hk : Hid (hasKey Ent.key l k = false) := Lib.hid (by
            rw [← Bool.not_eq_true, hf]
            rintro ⟨h1, h2⟩
            exact he (by rw [← hu]; exact h2))
          have hz : (cmpZ u.key k == 0) = false := by rw [beq_eq_false_iff_ne]; exact mt cmpZ_zero.1 he
          clear hf hu he
          generalize hidx : below Ent.key l k = i at *
          have hidx' := Lib.hid hidx
          clear hidx
          go_wp2_with (go_at_call 119; refine (thread (find1E u k _) w.heap.size w (by go_grown) (by go_grown)).mono ?_; rintro e w1 ⟨rfl, hB1, -, -, hs1, hz1⟩)
          go_ret2
          exact ⟨ret_val (by rw [hidx'.out, hk.out]; rfl), hB1⟩
      · have hk : Hid (hasKey Ent.key l k = false) := Lib.hid (by
          rw [← Bool.not_eq_true, hf]
          rintro ⟨h1, h2⟩
          exact hin h1)
        have hin' : ¬ ((below Ent.key l k : Nat) : Int) < (l.length : Int) := by omega
        clear hf hr hs
        generalize hidx : below Ent.key l k = i at *
        have hidx' := Lib.hid hidx
        clear hidx
        go_wp2_with fail
        go_ret2
        exact ⟨ret_val (by rw [hidx'.out, hk.out]; rfl), hB⟩

end Go.Proofs.YtafciefjlkdecaaGreat

namespace Go.Proofs.YtafciefjlkdecaaGreat
open Go.RowKit

theorem infoE : (Tryz.prog.info? 73).map (fun i => (i.zero, i.size, i.bytes)) = some (some (.agg #[.string ByteArray.empty, .string ByteArray.empty]), 2, 32) := by kernel_rfl
/-- The cells of some. -/
def cellsE (l : List Ent) : List Value := l.flatMap Ent.cells
theorem cellsE_len : ∀ l : List Ent, (cellsE l).length = l.length * 2
  | [] => rfl
  | u :: l => by
    have := cellsE_len l
    simp only [cellsE, List.flatMap_cons, List.length_append, List.length_cons] at *
    rw [this]
    simp [Ent.cells]; omega
theorem cellsE_append (a b : List Ent) : cellsE (a ++ b) = cellsE a ++ cellsE b := by simp [cellsE]
theorem cellsE_one (u : Ent) : cellsE [u] = Ent.cells u := by simp [cellsE]
theorem cellsE_oneCell (l : List Ent) : ∀ v ∈ cellsE l, v.oneCell' = true := by
  intro v hv
  simp only [cellsE, List.mem_flatMap] at hv
  obtain ⟨u, -, hv⟩ := hv
  simp only [Ent.cells, List.mem_cons, List.not_mem_nil, or_false] at hv
  rcases hv with rfl | rfl <;> rfl
theorem cellsE_get : ∀ (l : List Ent) (i : Nat) (hi : i < l.length) (j : Nat) (x : Value), (Ent.cells l[i])[j]? = some x → (cellsE l)[i * 2 + j]? = some x
  | [], i, hi, _, _, _ => by simp at hi
  | u :: l, 0, _, j, x, hx => by
    have hj : j < (Ent.cells u).length := (List.getElem?_eq_some_iff.1 hx).1
    simp only [cellsE, List.flatMap_cons, Nat.zero_mul, Nat.zero_add]
    rw [List.getElem?_append_left hj]; exact hx
  | u :: l, i + 1, hi, j, x, hx => by
    have := cellsE_get l i (by simpa using hi) j x (by simpa using hx)
    have hu : (Ent.cells u).length = 2 := rfl
    simp only [cellsE, List.flatMap_cons] at *
    rw [List.getElem?_append_right (by rw [hu]; omega), hu, show (i + 1) * 2 + j - 2 = i * 2 + j by omega]
    exact this
theorem cellsE_take (l : List Ent) (n : Nat) : (cellsE l).take (n * 2) = cellsE (l.take n) := by
  by_cases h : n ≤ l.length
  · conv => lhs; rw [← List.take_append_drop n l, cellsE_append]
    rw [List.take_append_of_le_length (by rw [cellsE_len, List.length_take]; omega), List.take_of_length_le (by rw [cellsE_len, List.length_take]; omega)]
  · rw [List.take_of_length_le (by rw [cellsE_len]; omega), List.take_of_length_le (by omega)]
theorem cellsE_drop (l : List Ent) (n : Nat) : (cellsE l).drop (n * 2) = cellsE (l.drop n) := by
  by_cases h : n ≤ l.length
  · conv => lhs; rw [← List.take_append_drop n l, cellsE_append]
    rw [List.drop_append, List.drop_of_length_le (by rw [cellsE_len, List.length_take]; omega), cellsE_len, List.length_take]
    simp [Nat.min_eq_left h]
  · rw [List.drop_of_length_le (by rw [cellsE_len]; omega), List.drop_of_length_le (by omega)]; rfl

/-- A slice of entries that is only read. -/
structure SlE (w : World) (v : Value) (l : List Ent) : Prop where
  form : ∃ ao c, v = .slice ao l.length c ∧ SlAt Ent.cells 2 w ao l ∧ l.length ≤ c ∧ (c : Int) ≤ 9223372036854775807 ∧ (ao = none → c = 0)
theorem SlE.nil (w : World) : SlE w (.slice none 0 0) [] := ⟨none, 0, rfl, Or.inl rfl, Nat.le_refl _, by omega, fun _ => rfl⟩
theorem SlE.kept {w w' : World} {v : Value} {l : List Ent} {B : Nat} (h : SlE w v l) (hb : Below B w w') (hB : w.heap.size ≤ B) : SlE w' v l := by
  obtain ⟨ao, c, rfl, h1, h2⟩ := h
  exact ⟨ao, c, rfl, h1.kept hb hB, h2⟩
theorem SlAt.cellsE {w : World} {b off : Nat} {l : List Ent} (h : ∀ (i : Nat) (hi : i < l.length) (j : Nat) (x : Value), (Ent.cells l[i])[j]? = some x → w.cell? ⟨b, off + i * 2 + j, none⟩ = some x) :
    ∀ j x, (cellsE l)[j]? = some x → w.cell? ⟨b, off + j, none⟩ = some x := by
  intro j x hx
  have hj := (List.getElem?_eq_some_iff.1 hx).1
  rw [cellsE_len] at hj
  have hi : j / 2 < l.length := by omega
  have hr : j % 2 < (Ent.cells l[j / 2]).length := Nat.mod_lt _ (by decide)
  have e := cellsE_get l (j / 2) hi (j % 2) _ (List.getElem?_eq_getElem hr)
  rw [show j / 2 * 2 + j % 2 = j by omega] at e
  rw [hx] at e
  have := h (j / 2) hi (j % 2) x (by rw [List.getElem?_eq_getElem hr, ← e])
  rw [show off + j / 2 * 2 + j % 2 = off + j by omega] at this
  exact this
/-- A row of the call's own reads as a slice. -/
theorem SlE.of_own {w : World} {B n : Nat} {v : Value} {l : List Ent} (h : w.ownsRow B 73 2 v n (cellsE l)) : l.length = n ∧ SlE w v l := by
  have hn : l.length = n := by have := h.1; rw [cellsE_len] at this; omega
  refine ⟨hn, ?_⟩
  subst hn
  rcases ownsRow_open h with ⟨rfl, h0, -⟩ | ⟨g, cap, cur, rfl, -, hr, h3, h4, h5, h6⟩
  · obtain rfl := List.eq_nil_of_length_eq_zero h0
    exact SlE.nil w
  · refine ⟨_, cap, rfl, Or.inr ⟨g, 0, rfl, hr.lt, fun i hi j x hx => ?_⟩, h3, by unfold maxLen at h4; omega, fun e => by simp at e⟩
    have hj : j < 2 := (List.getElem?_eq_some_iff.1 hx).1
    have e := cellsE_get l i hi j x hx
    rw [hr.cell, Nat.zero_add, ← e, ← h6, List.getElem?_take, if_pos (by omega)]

set_option maxHeartbeats 1000000 in
theorem cloneE (v : Value) (l : List Ent) (w : World) (h : SlE w v l) (hl : l.length ≤ 1000000) :
    Calls Tryz.prog 127 #[v] w fun e w' => (∃ v', e = .returned v' ∧ w'.ownsRow w.heap.size 73 2 v' l.length (cellsE l)) ∧ Below w.heap.size w w' := by
  obtain ⟨ao, c, rfl, hs, hc1, hc2, hn⟩ := h
  have hnil := fun (w : World) a n c n' c' => Lib.run_eql_slice_nil (P := Tryz.prog) w 43 73 a n c n' c' Tryz.underlying43
  obtain ⟨i0, hi, hz0, hz1, hz2⟩ := info_parts infoE
  cases ao with
  | none =>
    obtain rfl := hn rfl
    obtain rfl : l = [] := List.eq_nil_of_length_eq_zero (by omega)
    go_enter Tryz.func127, Tryz.ntmps127
    go_wp2_with fail
    go_ret
    exact ⟨⟨_, rfl, World.ownsRow_nil _ _ _ _⟩, Below.refl _ _⟩
  | some a =>
    have hown := World.ownsRow_made (e := 73) (size := 2) (base := w.heap.size) w #[] 0 (Nat.le_refl _) (by unfold maxLen; omega) rfl
    have hnews : ∀ j u, (cellsE l)[j]? = some u → (w.alloc (.cells #[] 73)).cell? (a.add j) = some u := by
      intro j u hu
      have hj := (List.getElem?_eq_some_iff.1 hu).1
      rw [cellsE_len] at hj
      obtain ⟨b, off, e, hb, hc⟩ := hs.at (by omega)
      obtain rfl : a = ⟨b, off, none⟩ := by simpa using e
      rw [show (⟨b, off, none⟩ : Addr).add j = ⟨b, off + j, none⟩ by simp [Addr.add]]
      exact cell_past _ (SlAt.cellsE hc j u hu)
    have hcl := cellsE_len l
    clear hs
    go_enter Tryz.func127, Tryz.ntmps127
    go_wp2_with (at_builtin; refine wpList_append_own_at _ rfl _ _ 43 rfl w.heap.size 73 i0 (.agg #[.string ByteArray.empty, .string ByteArray.empty]) 2 32 Tryz.underlying43 hi hz0 hz1 hz2 rfl (by decide) _ 0 [] rfl hown a l.length c (cellsE l) rfl hcl hnews (cellsE_oneCell l) (by unfold maxLen; omega) (by omega) (by simp) ?_; intro v' w1 hown' hgrow hnil' hat)
    go_ret
    rw [Nat.zero_add, List.nil_append] at hown'
    exact ⟨⟨_, rfl, hown'⟩, below_grown_new hgrow fun k e => Nat.le_of_eq (Option.some.inj e)⟩

end Go.Proofs.YtafciefjlkdecaaGreat

namespace Go.Proofs.YtafciefjlkdecaaGreat
open Go.RowKit

/-- A value of entries: one slice. -/
structure BoxE (w : World) (v : Value) (l : List Ent) : Prop where
  form : ∃ s, v = .agg #[s] ∧ SlE w s l
theorem BoxE.kept {w w' : World} {v : Value} {l : List Ent} {B : Nat} (h : BoxE w v l) (hb : Below B w w') (hB : w.heap.size ≤ B) : BoxE w' v l := by
  obtain ⟨s, rfl, hs⟩ := h
  exact ⟨s, rfl, hs.kept hb hB⟩
theorem BoxE.of_own {w : World} {B n : Nat} {v : Value} {l : List Ent} (h : w.ownsRow B 73 2 v n (cellsE l)) : BoxE w (.agg #[v]) l := ⟨v, rfl, (SlE.of_own h).2⟩

set_option maxHeartbeats 400000 in
theorem lenE (v : Value) (l : List Ent) (w : World) (h : BoxE w v l) :
    Calls Tryz.prog 68 #[v] w fun e w' => e = .returned (.int .i64 l.length) ∧ Below w.heap.size w w' := by
  obtain ⟨s, rfl, ao, c, rfl, hs, hc1, hc2, hn⟩ := h
  go_enter Tryz.func68, Tryz.ntmps68
  go_wp2
  go_ret
  exact ⟨rfl, by go_grown⟩

set_option maxHeartbeats 400000 in
theorem listE (v : Value) (l : List Ent) (w : World) (h : BoxE w v l) (hl : l.length ≤ 1000000) :
    Calls Tryz.prog 92 #[v] w fun e w' => (∃ v', e = .returned v' ∧ w'.ownsRow w.heap.size 73 2 v' l.length (cellsE l)) ∧ Below w.heap.size w w' := by
  obtain ⟨s, rfl, h2⟩ := h
  have hcl := fun w => cloneE s l w
  obtain ⟨ao, c, rfl, hs, hc1, hc2, hn⟩ := h2
  have hS : SlE w (.slice ao l.length c) l := ⟨ao, c, rfl, hs, hc1, hc2, hn⟩
  have H := Lib.hid hcl
  have HS := Lib.hid hS
  clear hcl hS hn
  go_enter Tryz.func92, Tryz.ntmps92
  go_wp2_with (go_at_call 127; refine (thread (H.out _ (HS.out.kept (by go_grown) (Nat.le_refl _)) hl) w.heap.size w (by go_grown) (by go_grown)).mono ?_; rintro e w1 ⟨⟨v', rfl, hown⟩, hB, -, -, hs1, hz1⟩)
  go_ret
  exact ⟨⟨_, rfl, own_base hown (by simp)⟩, hB⟩

set_option maxHeartbeats 400000 in
theorem findE (v : Value) (l : List Ent) (k : List UInt8) (w : World) (h : BoxE w v l) (hl : l.length ≤ 1000000) (hr : Rising Ent.key l) :
    Calls Tryz.prog 88 #[v, .string (S k)] w fun e w' => e = .returned (.tuple #[.int .i64 (below Ent.key l k : Nat), .bool (hasKey Ent.key l k)]) ∧ Below w.heap.size w w' := by
  obtain ⟨s, rfl, ao, c, rfl, hs, hc1, hc2, hn⟩ := h
  go_enter Tryz.func88, Tryz.ntmps88
  go_wp2_with (go_at_call 118; refine (thread (searchE ao c l k _ (hs.kept (by go_grown) (Nat.le_refl _)) hl hr) w.heap.size w (by go_grown) (by go_grown)).mono ?_; rintro e w1 ⟨rfl, hB, -, -, hs1, hz1⟩)
  go_ret2
  exact ⟨rfl, hB⟩

end Go.Proofs.YtafciefjlkdecaaGreat

namespace Go.Proofs.YtafciefjlkdecaaGreat
open Go.RowKit

theorem sizeE : (Tryz.prog.info? 73).map (·.size) = some 2 := by kernel_rfl

/-- What is in the row behind it. -/
def insE (l : List Ent) (i : Nat) (x : Ent) : List Ent := l.take i ++ x :: l.drop i

set_option maxRecDepth 100000 in
set_option maxHeartbeats 2000000 in
theorem insEndE (B : Nat) (v : Value) (l : List Ent) (x : Ent) (vb : Nat) (w : World) (hown : w.ownsRow B 73 2 v l.length (cellsE l)) (hB : B ≤ w.heap.size) (hl : l.length ≤ 1000000)
    (hx : RowIs w 73 vb (Ent.cells x)) :
    Calls Tryz.prog 128 #[v, .int .i64 l.length, .slice (some ⟨vb, 0, none⟩) 1 1] w fun e w' => (∃ v', e = .returned v' ∧ w'.ownsRow B 73 2 v' (l.length + 1) (cellsE (l ++ [x])) ∧ w.grownBy w' v.ownBlock ∧ (v'.ownBlock = v.ownBlock ∨ v'.ownBlock = some w.heap.size)) := by
  obtain ⟨i0, hi, hz0, hz1, hz2⟩ := info_parts infoE
  obtain ⟨ao, c, rfl, hlc⟩ : ∃ ao c, v = .slice ao l.length c ∧ l.length ≤ c := by
    rcases ownsRow_open hown with ⟨rfl, h0, -⟩ | ⟨g, cap, cur, rfl, -, -, h3, -⟩
    · exact ⟨none, 0, by rw [h0], by omega⟩
    · exact ⟨_, _, rfl, h3⟩
  obtain ⟨X, hX⟩ : ∃ X, ∀ w, (Instr.slice 43 (.slice ao l.length c) (some (.int .i64 (l.length : Int))) none none).run Tryz.prog w = .ok X w :=
    ⟨_, fun w => by rw [run_slice_l w 43 ao l.length c (by exact Tryz.underlying43) .i64 l.length (by omega) (by omega)]; rfl⟩
  have hl0 : ((1 : Int) == 0) = false := rfl
  go_enter Tryz.func128, Tryz.ntmps128
  go_wp2_with (at_builtin; refine wpList_append_own_at _ rfl _ _ 43 rfl B 73 i0 (.agg #[.string ByteArray.empty, .string ByteArray.empty]) 2 32 Tryz.underlying43 hi hz0 hz1 hz2 rfl (by decide) _ l.length _ rfl hown ⟨vb, 0, none⟩ 1 1 (Ent.cells x) rfl rfl (hx.cells 0 _ fun j v hv => by rw [Nat.zero_add]; exact hv) (by rw [← cellsE_one]; exact cellsE_oneCell _) (by unfold maxLen; omega) (by omega) hB ?_; intro v' w1 hown' hgrow hnil' hat)
  go_ret
  exact ⟨_, rfl, by rw [cellsE_append, cellsE_one]; exact hown', hgrow, hat⟩

theorem insRowE {cur zs : List Value} {i G k : Nat} (h : i * k ≤ cur.length) (hz : zs.length = (G - i) * k) (hi : i ≤ G) : (cur.take (i * k) ++ zs).length = G * k := by
  rw [List.length_append, List.length_take, hz, Nat.sub_mul]
  have := Nat.mul_le_mul_right k hi
  omega

set_option maxRecDepth 100000 in
set_option maxHeartbeats 2000000 in
theorem insGrowE (B g cap : Nat) (cur : List Value) (l : List Ent) (i : Nat) (x : Ent) (vb : Nat) (w : World) (hrow : RowIs w 73 g cur) (hcur : cur = cellsE l) (hil : i < l.length) (hcl : cap = l.length) (hB : B ≤ w.heap.size) (hl : l.length ≤ 1000000)
    (hx : RowIs w 73 vb (Ent.cells x)) :
    Calls Tryz.prog 128 #[.slice (some ⟨g, 0, none⟩) l.length cap, .int .i64 i, .slice (some ⟨vb, 0, none⟩) 1 1] w fun e w' => (∃ v', e = .returned v' ∧ w'.ownsRow B 73 2 v' (l.length + 1) (cellsE (insE l i x)) ∧ w.grownBy w' none ∧ v'.ownBlock = some w.heap.size) := by
  obtain ⟨i0, hi, hz0, hz1, hz2⟩ := info_parts infoE
  have hcurl : cur.length = l.length * 2 := by rw [hcur, cellsE_len]
  have hg := hrow.lt
  have hv := hx.lt
  have hne : ((i : Int) == (l.length : Int)) = false := by rw [beq_eq_false_iff_ne]; omega
  have hi1 : (i : Int) < (l.length : Int) := by omega
  have hi0 : (0 : Int) ≤ (i : Int) := by omega
  have hci : ¬ cap = i := by omega
  have hc1 : (cap : Int) < (l.length : Int) + 1 := by omega
  have hc2 : (l.length : Int) ≤ (cap : Int) := by omega
  have hk : (l.length : Int) + 1 - (i : Int) = ((l.length + 1 - i : Nat) : Int) := by omega
  have hkk := Lib.hid hk
  have hxl : (Ent.cells x).length = 2 := rfl
  have hcur' := Lib.hid hcur
  have hcl' := Lib.hid hcl
  clear hk hcur hcl
  go_enter Tryz.func128, Tryz.ntmps128
  go_wp2_with (first | (at_builtin; refine wpList_append_zeros _ rfl _ _ 43 3 rfl 73 i0 (.agg #[.string ByteArray.empty, .string ByteArray.empty]) 2 32 Tryz.underlying43 Tryz.underlying3 hi hz0 hz1 hz2 rfl (by decide) (by decide) g i cap cur hrow rfl (l.length + 1 - i) (by rw [← hkk.out]; rfl) (by omega) (by omega) (by rw [hcl'.out]; omega) (l.length + 1) (by omega) (by omega) ?_; intro w1 G zs hr1 hzs hG hGm hg1; have tokG : True := trivial; unfold maxLen at hGm; have hGi : ¬ G = i := (by omega); have hGi1 : ¬ G = i + 1 := (by omega); have hx1 := hx.kept hg1 (by simp); have hrow1 := hrow.kept hg1 (by simp); have hzl := Lib.hid hzs; clear hzs; have hrl' := Lib.hid (insRowE (cur := cur) (k := 2) (by rw [hcurl]; exact Nat.mul_le_mul_right _ (Nat.le_of_lt hil)) hzl.out (by omega))) | (with_reducible show wpList _ _ _ (Oper.mk (some 45) _ _ _ _ _ :: _) _ _; go_must (refine wpList_copyK _ rfl (.tmp 43) (.tmp 44) 43 43 rfl 73 2 Tryz.underlying43 sizeE w.heap.size (i * 2) (l.length + 1 - i) (G - i) ⟨vb, 0, none⟩ 1 1 rfl rfl _ (Ent.cells x) 1 hr1 (by simp only [Nat.min_def]; split <;> omega) rfl (hx1.cells 0 _ fun j v hv => by rw [Nat.zero_add]; exact hv) ?hfit (by rw [← cellsE_one]; exact cellsE_oneCell _) ?_; (case hfit => (rw [hrl'.out, hxl]; omega)); intro w2 hr2 hg2; have hrow2 := hrow1.kept hg2 (by simp; omega))))
  have hol := Lib.hid ((over_len (cur := cur.take (i * 2) ++ zs) (cs := Ent.cells x) (o := i * 2) (by rw [hrl'.out, hxl]; omega)).trans hrl'.out)
  have hw1 : IntKind.i64.wrap ((i : Int) + 1) = (i : Int) + 1 := IntWalk.i64_in _ (by omega)
  have hb1 : (0 : Int) ≤ (i : Int) + 1 := by omega
  have hin : i ≤ l.length := by omega
  have hb3 : (i : Int) ≤ (l.length : Int) := by omega
  have htn : ((i : Int) + 1).toNat = i + 1 := by omega
  have hdl : (cur.drop (i * 2)).length = (l.length - i) * 2 := by rw [List.length_drop, hcurl, Nat.sub_mul]
  have hdl' := Lib.hid hdl
  clear hdl hzl hrl'
  go_region_law (refine step_copyK rfl _ _ 43 43 rfl 73 2 Tryz.underlying43 sizeE w.heap.size ((i + 1) * 2) (l.length + 1 - (i + 1)) (G - (i + 1)) ⟨g, i * 2, none⟩ (l.length - i) (cap - i) (by simp [Act.eval, Act.put]) (by simp [Act.eval, Act.put]) _ (cur.drop (i * 2)) (l.length - i) hr2.drew (by simp only [Nat.min_def]; split <;> omega) hdl'.out (hrow2.drew.cells _ _ fun j v hv => by rwa [List.getElem?_drop] at hv) ?hfit2 (by rw [hcur'.out]; exact fun v hv => cellsE_oneCell _ v (List.mem_of_mem_drop hv)) ?_; (case hfit2 => (rw [hdl'.out, hol.out]; omega)); intro w3 hr3 hg3)
  go_wp2_with fail
  go_ret
  have hfit3 : (i + 1) * 2 + (cur.drop (i * 2)).length ≤ (over (cur.take (i * 2) ++ zs) (i * 2) (Ent.cells x)).length := by rw [hdl'.out, hol.out]; omega
  refine ⟨_, rfl, ownsRow_shut hB hr3 hG (by unfold maxLen; omega) ((over_len hfit3).trans hol.out) ?_, grown_new (grown_drew (grown_new hg1 hg2 (Nat.le_refl _))) hg3 (Nat.le_refl _), rfl⟩
  rw [over_two (cur.take (i * 2)) zs (Ent.cells x) (cur.drop (i * 2)) (i * 2) ((i + 1) * 2) (by rw [List.length_take, hcurl]; omega) (by rw [hxl]; omega) ((l.length + 1) * 2) (by rw [hdl'.out]; omega)]
  rw [hcur'.out, cellsE_take, cellsE_drop, insE, cellsE_append, ← List.singleton_append, cellsE_append, cellsE_one]

set_option maxRecDepth 100000 in
set_option maxHeartbeats 2000000 in
theorem insShiftE (B g cap : Nat) (cur : List Value) (l : List Ent) (i : Nat) (x : Ent) (vb : Nat) (w : World) (hrow : RowIs w 73 g cur) (hcur : cur.take (l.length * 2) = cellsE l) (hcurl : cur.length = cap * 2) (hil : i < l.length) (hcl : l.length + 1 ≤ cap) (hcm : cap ≤ 9223372036854775807) (hB : B ≤ g) (hl : l.length ≤ 1000000)
    (hx : RowIs w 73 vb (Ent.cells x)) (hvg : vb ≠ g) :
    Calls Tryz.prog 128 #[.slice (some ⟨g, 0, none⟩) l.length cap, .int .i64 i, .slice (some ⟨vb, 0, none⟩) 1 1] w fun e w' => (∃ v', e = .returned v' ∧ w'.ownsRow B 73 2 v' (l.length + 1) (cellsE (insE l i x)) ∧ w.grownBy w' (some g) ∧ v'.ownBlock = some g) := by
  have hg := hrow.lt
  have hv := hx.lt
  have hne : ((i : Int) == (l.length : Int)) = false := by rw [beq_eq_false_iff_ne]; omega
  have hi1 : (i : Int) < (l.length : Int) := by omega
  have hi0 : (0 : Int) ≤ (i : Int) := by omega
  have hci : ¬ cap = i := by omega
  have hci1 : ¬ cap = i + 1 := by omega
  have hc1 : ¬ (cap : Int) < (l.length : Int) + 1 := by omega
  have hc2 : (l.length : Int) + 1 ≤ (cap : Int) := by omega
  have hov : ∀ lb cb, (callFunc 160 #[.slice (some ⟨vb, 0, none⟩) 1 1, .slice (some ⟨g, (i + 1) * 2, none⟩) lb cb]).run Tryz.prog w = .ok (.value (.bool false)) w := fun lb cb => by
    rw [run_callFunc_extern Tryz.func160 (by kernel_rfl) (by kernel_rfl) (by kernel_rfl) (e := Extern.SlicesOverlaps.overlaps #[43, 43] #[4]) (by kernel_rfl),
      Lib.run_overlaps_apart w 43 4 73 Tryz.underlying43 2 Tryz.sizeOf73 ⟨vb, 0, none⟩ ⟨g, (i + 1) * 2, none⟩ 1 1 lb cb hvg 73 73 _ _ hx.shape hrow.shape (by omega) (hx.frozen 0) (hx.frozen _)]
    rfl
  have hxl : (Ent.cells x).length = 2 := rfl
  have hw1 : IntKind.i64.wrap ((i : Int) + 1) = (i : Int) + 1 := IntWalk.i64_in _ (by omega)
  have hb1 : (0 : Int) ≤ (i : Int) + 1 := by omega
  have hin : i ≤ l.length := by omega
  have hb3 : (i : Int) ≤ (l.length : Int) := by omega
  have hb4 : (i : Int) ≤ (l.length : Int) + 1 := by omega
  have htn : ((i : Int) + 1).toNat = i + 1 := by omega
  obtain ⟨R, hcurE⟩ : ∃ R, cur = cellsE (l.take i) ++ (cellsE (l.drop i) ++ R) := ⟨cur.drop (l.length * 2), by
    rw [← List.append_assoc, ← cellsE_append, List.take_append_drop, ← hcur, List.take_append_drop]⟩
  have hPl : (cellsE (l.take i)).length = i * 2 := by rw [cellsE_len, List.length_take]; omega
  have hQl : (cellsE (l.drop i)).length = (l.length - i) * 2 := by rw [cellsE_len, List.length_drop]
  have hRl : R.length = (cap - l.length) * 2 := by rw [hcurE, List.length_append, List.length_append, hPl, hQl] at hcurl; omega
  have hQ1 := cellsE_oneCell (l.drop i)
  have hins : cellsE (insE l i x) = cellsE (l.take i) ++ (Ent.cells x ++ cellsE (l.drop i)) := by
    rw [insE, cellsE_append, ← List.singleton_append, cellsE_append, cellsE_one]
  have hins' := Lib.hid hins
  have hcurl' := Lib.hid hcurl
  clear hcur hins hcurl
  generalize cellsE (l.take i) = C at *
  generalize cellsE (l.drop i) = D at *
  have hCl := Lib.hid hPl
  have hDl := Lib.hid hQl
  have hRl' := Lib.hid hRl
  have hcurE' := Lib.hid hcurE
  clear hPl hQl hRl hcurE
  go_enter Tryz.func128, Tryz.ntmps128
  go_wp2_with (simp only [hov])
  go_region_law (refine step_copyK rfl _ _ 43 43 rfl 73 2 Tryz.underlying43 sizeE g ((i + 1) * 2) (l.length + 1 - (i + 1)) (cap - (i + 1)) ⟨g, i * 2, none⟩ (l.length + 1 - i) (cap - i) (by simp [Act.eval, Act.put]) (by simp [Act.eval, Act.put]) _ D (l.length - i) hrow.drew (by simp only [Nat.min_def]; split <;> omega) hDl.out (hrow.drew.cells _ _ fun j v hv => by rw [hcurE'.out, ← hCl.out, List.getElem?_append_right (by omega), Nat.add_sub_cancel_left, List.getElem?_append_left (List.getElem?_eq_some_iff.1 hv).1]; exact hv) (by rw [hDl.out, hcurl'.out]; omega) hQ1 ?_; intro w3 hr3 hg3)
  have hx3 := hx.drew.kept hg3 (by simpa using hvg)
  have hol := Lib.hid ((over_len (cur := cur) (cs := D) (o := (i + 1) * 2) (by rw [hDl.out, hcurl'.out]; omega)).trans hcurl'.out)
  go_wp2_with (with_reducible show wpList _ _ _ (Oper.mk (some 82) _ _ _ _ _ :: _) _ _; refine wpList_copyK _ rfl (.tmp 80) (.tmp 81) 43 43 rfl 73 2 Tryz.underlying43 sizeE g (i * 2) (l.length + 1 - i) (cap - i) ⟨vb, 0, none⟩ 1 1 rfl rfl _ (Ent.cells x) 1 hr3 (by simp only [Nat.min_def]; split <;> omega) rfl (hx3.cells 0 _ fun j v hv => by rw [Nat.zero_add]; exact hv) ?hfit (by rw [← cellsE_one]; exact cellsE_oneCell _) ?_; (case hfit => (rw [hol.out, hxl]; omega)); intro w4 hr4 hg4)
  go_ret
  refine ⟨_, rfl, ownsRow_shut hB hr4 hcl (by unfold maxLen; omega) ((over_len (by rw [hol.out, hxl]; omega)).trans hol.out) ?_, grown_trans' (grown_undrew hg3) hg4, rfl⟩
  rw [hcurE'.out, hins'.out]
  exact over_gap C D R (Ent.cells x) (i * 2) ((i + 1) * 2) hCl.out (by rw [hxl]; omega) ((l.length + 1) * 2) (by rw [hDl.out]; omega) (by rw [hxl, hRl'.out]; omega)

theorem insertE (B : Nat) (v : Value) (l : List Ent) (i : Nat) (x : Ent) (vb : Nat) (w : World) (hown : w.ownsRow B 73 2 v l.length (cellsE l)) (hB : B ≤ w.heap.size) (hi : i ≤ l.length) (hl : l.length ≤ 1000000)
    (hx : RowIs w 73 vb (Ent.cells x)) (hvb : v.ownBlock ≠ some vb) :
    Calls Tryz.prog 128 #[v, .int .i64 i, .slice (some ⟨vb, 0, none⟩) 1 1] w fun e w' => (∃ v', e = .returned v' ∧ w'.ownsRow B 73 2 v' (l.length + 1) (cellsE (insE l i x)) ∧ w.grownBy w' v.ownBlock ∧ (v'.ownBlock = v.ownBlock ∨ v'.ownBlock = some w.heap.size)) := by
  by_cases he : i = l.length
  · subst he
    have := insEndE B v l x vb w hown hB hl hx
    rw [insE, List.take_length, List.drop_length]
    exact this
  · rcases ownsRow_open hown with ⟨rfl, h0, -⟩ | ⟨g, cap, cur, rfl, hBg, hr, hn, hm, hc, ht⟩
    · omega
    · have hvg : vb ≠ g := fun e => hvb (by simp [Value.ownBlock, e])
      by_cases hroom : l.length + 1 ≤ cap
      · refine (insShiftE B g cap cur l i x vb w hr ht hc (by omega) hroom (by unfold maxLen at hm; omega) hBg hl hx hvg).mono ?_
        rintro e w' ⟨v', h1, h2, h3, h4⟩
        exact ⟨v', h1, h2, h3, Or.inl h4⟩
      · have hcl : cap = l.length := by omega
        subst hcl
        refine (insGrowE B g l.length cur l i x vb w hr (by rw [← ht, List.take_of_length_le (by omega)]) (by omega) rfl hB hl hx).mono ?_
        rintro e w' ⟨v', h1, h2, h3, h4⟩
        exact ⟨v', h1, h2, ⟨h3.os, h3.tape, h3.output, h3.size, fun k hk _ => h3.block k hk (by simp)⟩, Or.inr h4⟩

end Go.Proofs.YtafciefjlkdecaaGreat

namespace Go.Proofs.YtafciefjlkdecaaGreat
open Go.RowKit

section
variable {P : Program} (w : World)
/-- 'append(s, x...)' where there is room, the row known whole. -/
theorem run_appendK (t ty E : TypeId) (i : TypeInfo) (k g n cap : Nat) (a : Addr) (m c : Nat) (cur : List Value) (news : List Value) (ht : P.underlying t = some (.slice E)) (hi : P.info? E = some i) (hk : i.size = k)
    (hrow : RowIs w E g cur) (hl : news.length = m * k) (hsrc : ∀ j v, news[j]? = some v → w.cell? (a.add j) = some v) (hroom : n + m ≤ cap) (hfit : n * k + news.length ≤ cur.length) (h1 : ∀ v ∈ news, v.oneCell' = true) :
    (Builtin.append_ #[t, t] ty #[.slice (some ⟨g, 0, none⟩) n cap, .slice (some a) m c]).run P w = .ok (.slice (some ⟨g, 0, none⟩) (n + m) cap) (w.setRow g (over cur (n * k) news).toArray) := by
  subst hk
  have hst := run_storeCells_at P g (n * i.size) E news 0 cur.toArray w hrow (by simpa using hfit) h1
  have hf := run_firstCells_some (P := P) w i.size m a m c news hl hsrc
  simp only [Nat.add_zero] at hst
  simp [Builtin.append_, run_underlying ht, sizeOf, typeInfo, hi, Builtin.lenOf, hroom, hf, Addr.add_lit, hst, over]

/-- 'clear(s)' of a part of a row that is known whole. -/
theorem run_clearK (t ty E : TypeId) (z : Value) (k g o n c : Nat) (cur : List Value) (ht : P.underlying t = some (.slice E)) (hz : ∀ w, (zeroValue E).run P w = .ok z w) (hk : z.cells.size = k) (h1 : ∀ v ∈ z.cells.toList, v.oneCell' = true)
    (hrow : RowIs w E g cur) (hn : 0 < n) (hfit : o + n * k ≤ cur.length) :
    ∃ zs : List Value, zs.length = n * k ∧ (Builtin.clear_ #[t] ty #[.slice (some ⟨g, o, none⟩) n c]).run P w = .ok (.tuple #[]) (w.setRow g (over cur o zs).toArray) := by
  have hlen : (Builtin.zeroCells z.cells n).toList.length = n * k := by rw [Array.length_toList, zeroCells_len, hk]
  have hone : ∀ v ∈ (Builtin.zeroCells z.cells n).toList, v.oneCell' = true := by
    intro v hv
    have hm := Array.mem_toList_iff.1 hv
    unfold Builtin.zeroCells at hm
    obtain ⟨j, hj, rfl⟩ := Array.mem_map.1 hm
    have hpos : 0 < z.cells.size := by
      rcases Nat.eq_zero_or_pos z.cells.size with h0 | h0
      · rw [h0, Nat.mul_zero] at hj; simp at hj
      · exact h0
    rw [getElem!_pos z.cells _ (Nat.mod_lt _ hpos)]
    exact h1 _ (Array.mem_toList_iff.2 (Array.getElem_mem _))
  have hst := run_storeCells_at P g o E (Builtin.zeroCells z.cells n).toList 0 cur.toArray w hrow (by rw [hlen]; simpa using hfit) hone
  obtain ⟨m, rfl⟩ : ∃ m, n = m + 1 := ⟨n - 1, by omega⟩
  refine ⟨_, hlen, ?_⟩
  simp only [Nat.add_zero] at hst
  simp [Builtin.clear_, run_underlying ht, hz, hst, over]
end
/-- .. the append as one step of a region that draws. -/
theorem step_appendK {P : Program} {ops : Array Oper} {o : Oper} {a : Act} {w : World} {K : Act → World → Prop} {Q : Exit → Act → World → Prop} {E0 : Prop}
    (hgd : o.guard = none) (d s : Operand) (t : TypeId) (ho : o.op = Op.call { callee := Callee.builtin Builtin.append, args := #[d, s], argTypes := #[t, t] }) (E : TypeId) (i : TypeInfo) (k : Nat) (ht : P.underlying t = some (.slice E)) (hi : P.info? E = some i) (hk : i.size = k)
    (g n cap : Nat) (ad : Addr) (m c : Nat) (hd : a.eval d = .slice (some ⟨g, 0, none⟩) n cap) (hsr : a.eval s = .slice (some ad) m c) (cur news : List Value)
    (hrow : RowIs w E g cur) (hl : news.length = m * k) (hsrc : ∀ j v, news[j]? = some v → w.cell? (ad.add j) = some v) (hroom : n + m ≤ cap) (hfit : n * k + news.length ≤ cur.length) (h1 : ∀ v ∈ news, v.oneCell' = true)
    (h : ∀ w', RowIs w' E g (over cur (n * k) news) → w.grownBy w' (some g) → K (a.put o.dst (.slice (some ⟨g, 0, none⟩) (n + m) cap)) w') :
    if Region.wanted o (yielded ops a.tmps) = true then Oper.wp P o a w K Q else E0 := by
  have hr := run_appendK (P := P) w t o.type E i k g n cap ad m c cur news ht hi hk hrow hl hsrc hroom hfit h1
  have hw : Region.wanted o (yielded ops a.tmps) = true := by simp [Region.wanted, hgd]
  rw [if_pos hw]
  unfold Oper.wp
  simp [execOp, ho, resolve, invoke, builtin, hd, hsr, hr, Result.andThen]
  exact h _ (hrow.set _) (grown_setRow _ _ _)
/-- .. the clear at the operation. -/
theorem wpList_clearK {P : Program} (w : World) {ops : Array Oper} {rest : List Oper} {o : Oper} {a : Act} {Q : Exit → Act → World → Prop} (hgd : o.guard = none) (s : Operand) (t : TypeId)
    (ho : o.op = .call { callee := .builtin .clear, args := #[s], argTypes := #[t] }) (E : TypeId) (z : Value) (k g off n c : Nat) (cur : List Value) (ht : P.underlying t = some (.slice E)) (hz : ∀ w, (zeroValue E).run P w = .ok z w) (hk : z.cells.size = k) (h1 : ∀ v ∈ z.cells.toList, v.oneCell' = true)
    (hs : a.eval s = .slice (some ⟨g, off, none⟩) n c) (hrow : RowIs w E g cur) (hn : 0 < n) (hfit : off + n * k ≤ cur.length)
    (h : ∀ w' zs, zs.length = n * k → RowIs w' E g (over cur off zs) → w.grownBy w' (some g) → wpList P ops Q rest (a.put o.dst (.tuple #[])) w') : wpList P ops Q (o :: rest) a w := by
  obtain ⟨zs, hl, hr⟩ := run_clearK (P := P) w t o.type E z k g off n c cur ht hz hk h1 hrow hn hfit
  refine wpList_plain hgd fun K hK => ?_
  unfold Oper.wp
  simp only [execOp, ho, resolve, invoke, builtin, Sem.run_bind, Sem.run_pure, Result.andThen_ok, List.map_toArray, List.map_cons, List.map_nil, hs, hr]
  exact hK _ _ (h _ zs hl (hrow.set _) (grown_setRow _ _ _))

/-- One left out. -/
def delE (l : List Ent) (i : Nat) : List Ent := l.take i ++ l.drop (i + 1)
theorem zeroE (w : World) : (zeroValue 73).run Tryz.prog w = .ok (.agg #[.string ByteArray.empty, .string ByteArray.empty]) w := by kernel_rfl
/-- Moved down, and what is behind laid over. -/
theorem over_down (P X Q R zs : List Value) (o : Nat) (ho : P.length = o) (n : Nat) (hn : o + Q.length = n) (_hz : zs.length = X.length) : (over (over (P ++ (X ++ (Q ++ R))) o Q) n zs).take n = P ++ Q := by
  have e1 : over (P ++ (X ++ (Q ++ R))) o Q = P ++ (Q ++ (X ++ (Q ++ R)).drop Q.length) := over_behind P _ Q o ho
  rw [e1, ← List.append_assoc, over_behind (P ++ Q) _ zs n (by simp; omega), List.take_append_of_le_length (by simp; omega), List.take_of_length_le (by simp; omega)]

set_option maxRecDepth 100000 in
set_option maxHeartbeats 2000000 in
theorem delRowE (B g cap : Nat) (cur : List Value) (l : List Ent) (i : Nat) (w : World) (hrow : RowIs w 73 g cur) (hcur : cur.take (l.length * 2) = cellsE l) (hcurl : cur.length = cap * 2) (hil : i < l.length) (hcl : l.length ≤ cap) (hcm : cap ≤ 9223372036854775807) (hB : B ≤ g) (hl : l.length ≤ 1000000) :
    Calls Tryz.prog 129 #[.slice (some ⟨g, 0, none⟩) l.length cap, .int .i64 i, .int .i64 ((i : Int) + 1)] w fun e w' => (∃ c', e = .returned (.slice (some ⟨g, 0, none⟩) (l.length - 1) c') ∧ w'.ownsRow B 73 2 (.slice (some ⟨g, 0, none⟩) (l.length - 1) c') (l.length - 1) (cellsE (delE l i))) ∧ w.grownBy w' (some g) := by
  obtain ⟨i0, hi, hz0, hz1, hz2⟩ := info_parts infoE
  have hg := hrow.lt
  have hne : ((i : Int) == (i : Int) + 1) = false := by rw [beq_eq_false_iff_ne]; omega
  have hi1 : (i : Int) < (l.length : Int) := by omega
  have hi0 : (0 : Int) ≤ (i : Int) := by omega
  have hi2 : (0 : Int) ≤ (i : Int) + 1 := by omega
  have hi3 : (i : Int) ≤ (i : Int) + 1 := by omega
  have hi4 : (i : Int) + 1 ≤ (l.length : Int) := by omega
  have hi5 : (i : Int) ≤ (l.length : Int) := by omega
  have hi6 : (l.length : Int) ≤ (cap : Int) := by omega
  have hi7 : (i : Int) ≤ (cap : Int) := by omega
  have hci : ¬ cap = i := by omega
  have htn : ((i : Int) + 1).toNat = i + 1 := by omega
  obtain ⟨R, hcurE⟩ : ∃ R, cur = cellsE (l.take i) ++ (cellsE [l[i]] ++ (cellsE (l.drop (i + 1)) ++ R)) := ⟨cur.drop (l.length * 2), by
    rw [← List.append_assoc, ← List.append_assoc, ← cellsE_append, ← cellsE_append, List.append_assoc, List.singleton_append, List.getElem_cons_drop, List.take_append_drop, ← hcur, List.take_append_drop]⟩
  have hPl : (cellsE (l.take i)).length = i * 2 := by rw [cellsE_len, List.length_take]; omega
  have hQl : (cellsE (l.drop (i + 1))).length = (l.length - (i + 1)) * 2 := by rw [cellsE_len, List.length_drop]
  have hXl : (cellsE [l[i]]).length = 2 := by rw [cellsE_len]; rfl
  have hQ1 := cellsE_oneCell (l.drop (i + 1))
  have hdel : cellsE (delE l i) = cellsE (l.take i) ++ cellsE (l.drop (i + 1)) := by rw [delE, cellsE_append]
  have hdel' := Lib.hid hdel
  have hcurl' := Lib.hid hcurl
  clear hcur hdel hcurl
  generalize cellsE (l.take i) = C at *
  generalize cellsE (l.drop (i + 1)) = D at *
  generalize cellsE [l[i]] = X at *
  have hCl := Lib.hid hPl
  have hDl := Lib.hid hQl
  have hXl' := Lib.hid hXl
  have hcurE' := Lib.hid hcurE
  clear hPl hQl hXl hcurE
  go_enter Tryz.func129, Tryz.ntmps129
  go_wp2_with fail
  have hR := Lib.hid (over_down C X D R)
  by_cases hce : cap = i + 1
  · have hn1 : l.length = i + 1 := by omega
    have hD0 : D = [] := List.eq_nil_of_length_eq_zero (by rw [hDl.out]; omega)
    go_region_law (refine step_appendK rfl (.tmp 22) (.tmp 25) 43 rfl 73 i0 2 Tryz.underlying43 hi hz1 g i (i + 1) ⟨g, 0, none⟩ 0 0 (by simp [Act.eval, Act.put]) (by simp [Act.eval, Act.put]) cur [] hrow.drew rfl (fun j v hv => by simp at hv) (by omega) (by rw [hcurl'.out]; simp; omega) (by simp) ?_; intro w3 hr3 hg3)
    go_wp2_with (with_reducible show wpList _ _ _ (Oper.mk none _ _ _ _ _ :: _) _ _; refine wpList_clearK _ rfl (.tmp 31) 43 rfl 73 _ 2 g (i * 2) 1 1 _ Tryz.underlying43 zeroE rfl (by decide) ?hs hr3 (by omega) ?hfit ?_; (case hs => simp [Act.eval]); (case hfit => (rw [over_len (by rw [hcurl'.out]; simp; omega), hcurl'.out]; omega)); intro w4 zs hzl hr4 hg4)
    rw [hcurE'.out, hD0, List.nil_append] at hr4
    go_ret
    rw [show l.length - 1 = i by omega]
    refine ⟨⟨_, rfl, ?_⟩, grown_trans' (grown_undrew hg3) hg4⟩
    have hC := over_down C X [] R zs (i * 2) hCl.out (i * 2) rfl (by rw [hzl, hXl'.out])
    rw [List.nil_append] at hC
    have hl2 : (C ++ (X ++ R)).length = (i + 1) * 2 := by rw [← hce, ← hcurl'.out, hcurE'.out, hD0, List.nil_append]
    have h1 := (over_len (cur := C ++ (X ++ R)) (cs := []) (o := i * 2) (by rw [hl2]; simp; omega)).trans hl2
    have h2 := (over_len (cs := zs) (o := i * 2) (by rw [h1, hzl]; omega)).trans h1
    exact ownsRow_shut hB hr4 (by omega) (by unfold maxLen; omega) h2 (by rw [hC, hdel'.out, hD0, List.append_nil])
  · go_region_law (refine step_appendK rfl (.tmp 22) (.tmp 25) 43 rfl 73 i0 2 Tryz.underlying43 hi hz1 g i cap ⟨g, (i + 1) * 2, none⟩ (l.length - (i + 1)) (cap - (i + 1)) (by simp [Act.eval, Act.put]) (by simp [Act.eval, Act.put]) cur D hrow.drew hDl.out (hrow.drew.cells _ _ fun j v hv => by rw [hcurE'.out, ← List.append_assoc, List.getElem?_append_right (by rw [List.length_append, hCl.out, hXl'.out]; omega), List.length_append, hCl.out, hXl'.out, show (i + 1) * 2 + j - (i * 2 + 2) = j by omega, List.getElem?_append_left (List.getElem?_eq_some_iff.1 hv).1]; exact hv) (by omega) (by rw [hDl.out, hcurl'.out]; omega) hQ1 ?_; intro w3 hr3 hg3)
    go_wp2_with (with_reducible show wpList _ _ _ (Oper.mk none _ _ _ _ _ :: _) _ _; refine wpList_clearK _ rfl (.tmp 31) 43 rfl 73 _ 2 g ((i + (l.length - (i + 1))) * 2) (l.length - (i + (l.length - (i + 1)))) (cap - (i + (l.length - (i + 1)))) _ Tryz.underlying43 zeroE rfl (by decide) ?hs hr3 (by omega) ?hfit ?_; (case hs => simp [Act.eval]); (case hfit => (rw [over_len (by rw [hDl.out, hcurl'.out]; omega), hcurl'.out]; omega)); intro w4 zs hzl hr4 hg4)
    have hli : i + (l.length - (i + 1)) = l.length - 1 := by omega
    rw [hli] at hr4 hzl
    rw [hcurE'.out] at hr4
    go_ret
    rw [hli]
    refine ⟨⟨_, rfl, ?_⟩, grown_trans' (grown_undrew hg3) hg4⟩
    have hC := over_down C X D R zs (i * 2) hCl.out ((l.length - 1) * 2) (by rw [hDl.out]; omega) (by rw [hzl, hXl'.out]; omega)
    have hl2 : (C ++ (X ++ (D ++ R))).length = cap * 2 := by rw [← hcurl'.out, hcurE'.out]
    have h1 := (over_len (cs := D) (o := i * 2) (by rw [hl2, hDl.out]; omega)).trans hl2
    have h2 := (over_len (cs := zs) (o := (l.length - 1) * 2) (by rw [h1, hzl]; omega)).trans h1
    exact ownsRow_shut hB hr4 (by omega) (by unfold maxLen; omega) h2 (by rw [hC, hdel'.out])

theorem deleteE (B : Nat) (v : Value) (l : List Ent) (i : Nat) (w : World) (hown : w.ownsRow B 73 2 v l.length (cellsE l)) (hi : i < l.length) (hl : l.length ≤ 1000000) :
    Calls Tryz.prog 129 #[v, .int .i64 i, .int .i64 ((i : Int) + 1)] w fun e w' => (∃ v', e = .returned v' ∧ w'.ownsRow B 73 2 v' (delE l i).length (cellsE (delE l i)) ∧ v'.ownBlock = v.ownBlock) ∧ w.grownBy w' v.ownBlock := by
  rcases ownsRow_open hown with ⟨rfl, h0, -⟩ | ⟨g, cap, cur, rfl, hBg, hr, hn, hm, hc, ht⟩
  · omega
  · refine (delRowE B g cap cur l i w hr ht hc hi hn (by unfold maxLen at hm; omega) hBg hl).mono ?_
    rintro e w' ⟨⟨c', h1, h2⟩, h3⟩
    have hd : (delE l i).length = l.length - 1 := by simp [delE]; omega
    rw [hd]
    exact ⟨⟨_, h1, h2, rfl⟩, h3⟩

end Go.Proofs.YtafciefjlkdecaaGreat

namespace Go.Proofs.YtafciefjlkdecaaGreat
open Go.RowKit

/-- The value of a key, or none. -/
def oldE (l : List Ent) (k : List UInt8) : List UInt8 := ((l[below Ent.key l k]?).map Ent.val).getD []
/-- What an update that may be makes of the value of its key. -/
def newE (l : List Ent) (u : Upd) : List UInt8 × Bool := if hasKey Ent.key l u.key then onL (oldE l u.key) true u else onL [] false u
/-- What an update makes of entries. -/
def onE (l : List Ent) (u : Upd) : List Ent :=
  if u.check ≠ 0 then l
  else if (newE l u).2 then (if hasKey Ent.key l u.key then l.set (below Ent.key l u.key) ⟨u.key, (newE l u).1⟩ else insE l (below Ent.key l u.key) ⟨u.key, (newE l u).1⟩)
  else if hasKey Ent.key l u.key then delE l (below Ent.key l u.key) else l

/-- A leaf in its box p: the row is the call's own, and another block. -/
structure LeafAt (B p : Nat) (l : List Ent) (w : World) : Prop where
  own : ∃ a c, w.cell? ⟨p, 0, none⟩ = some (.slice a l.length c) ∧ w.ownsRow B 73 2 (.slice a l.length c) l.length (cellsE l) ∧ (Value.slice a l.length c).ownBlock ≠ some p
  free : w.frozen? ⟨p, 0, none⟩ = false
  lt : p < w.heap.size
  base : B ≤ p
theorem LeafAt.on {B p : Nat} {l : List Ent} {w w' : World} (h : LeafAt B p l w) (hb : Below w.heap.size w w') : LeafAt B p l w' := by
  obtain ⟨⟨a, c, h1, h2, h3⟩, h4, h5, h6⟩ := h
  exact ⟨⟨a, c, kept_cell hb h1, own_below h2 hb, h3⟩, ((bcell hb).2 p 0 h5).trans h4, Nat.lt_of_lt_of_le h5 hb.size, h6⟩

theorem cellsE_set : ∀ (l : List Ent) (i : Nat) (y : List UInt8) (hi : i < l.length), (cellsE l).set (i * 2 + 1) (.string (S y)) = cellsE (l.set i ⟨l[i].key, y⟩)
  | [], i, _, h => by simp at h
  | u :: l, 0, y, _ => by simp [cellsE, Ent.cells]
  | u :: l, i + 1, y, h => by
    have ih := cellsE_set l i y (by simpa using h)
    have e : ∀ (y : Ent) (m : List Ent), cellsE (y :: m) = .string (S y.key) :: .string (S y.val) :: cellsE m := fun y m => by simp [cellsE, Ent.cells]
    rw [List.getElem_cons_succ, List.set_cons_succ, e, e, ← ih, show (i + 1) * 2 + 1 = i * 2 + 1 + 1 + 1 by omega]
    simp only [List.set_cons_succ]

/-- What the walk keeps: the leaf's box p, and the update's box q. -/
structure OnAt (B p q : Nat) (a : Option Addr) (c : Nat) (l : List Ent) (kd : Nat) (key val : List UInt8) (dl : Nat) (w0 w : World) : Prop where
  cell : w.cell? ⟨p, 0, none⟩ = some (.slice a l.length c)
  own : w.ownsRow B 73 2 (.slice a l.length c) l.length (cellsE l)
  free : w.frozen? ⟨p, 0, none⟩ = false
  q0 : w.cell? ⟨q, 0, none⟩ = some (.int .u8 kd)
  q1 : w.cell? ⟨q, 1, none⟩ = some (.string (S key))
  q2 : w.cell? ⟨q, 2, none⟩ = some (.string (S val))
  q3 : w.cell? ⟨q, 3, none⟩ = some (.int .u64 dl)
  lt : p < w.heap.size
  low : Below B w0 w
  base : B ≤ w0.heap.size
theorem OnAt.on {B p q : Nat} {a : Option Addr} {c : Nat} {l : List Ent} {kd : Nat} {key val : List UInt8} {dl : Nat} {w0 w w' : World} (h : OnAt B p q a c l kd key val dl w0 w) (hb : Below w.heap.size w w') : OnAt B p q a c l kd key val dl w0 w' :=
  ⟨kept_cell hb h.cell, own_below h.own hb, ((bcell hb).2 p 0 h.lt).trans h.free, kept_cell hb h.q0, kept_cell hb h.q1, kept_cell hb h.q2, kept_cell hb h.q3, Nat.lt_of_lt_of_le h.lt hb.size, h.low.trans (hb.mono (Nat.le_trans h.base h.low.size)), h.base⟩
theorem OnAt.drew {B p q : Nat} {a : Option Addr} {c : Nat} {l : List Ent} {kd : Nat} {key val : List UInt8} {dl : Nat} {w0 w : World} (h : OnAt B p q a c l kd key val dl w0 w) : OnAt B p q a c l kd key val dl w0 w.drew := h.on (below_drew' (Below.refl _ _))
theorem OnAt.start {B p : Nat} {a : Option Addr} {c : Nat} {l : List Ent} {kd : Nat} {key val : List UInt8} {dl : Nat} {w : World} (t : TypeId) (h1 : w.cell? ⟨p, 0, none⟩ = some (.slice a l.length c)) (h2 : w.ownsRow B 73 2 (.slice a l.length c) l.length (cellsE l)) (h3 : w.frozen? ⟨p, 0, none⟩ = false) (h4 : p < w.heap.size) (h5 : B ≤ p) :
    OnAt B p w.heap.size a c l kd key val dl w (w.alloc (.cells #[.int .u8 kd, .string (S key), .string (S val), .int .u64 dl] t)) := by
  have hb : Below w.heap.size w (w.alloc (.cells #[.int .u8 kd, .string (S key), .string (S val), .int .u64 dl] t)) := by go_grown
  exact ⟨kept_cell hb h1, own_below h2 hb, ((bcell hb).2 p 0 h4).trans h3, by simp, by simp, by simp, by simp, Nat.lt_of_lt_of_le h4 hb.size, hb.mono (by omega), by omega⟩

set_option maxRecDepth 100000 in
set_option maxHeartbeats 4000000 in
theorem on_refused (p : Nat) (kd : Nat) (key val : List UInt8) (dl : Nat) (w : World) (hk : kd < 256) (hd : dl < 18446744073709551616) (hc : (Upd.mk kd key val dl).check ≠ 0) :
    Calls Tryz.prog 93 #[.pointer (some ⟨p, 0, none⟩), .agg #[.int .u8 kd, .string (S key), .string (S val), .int .u64 dl]] w fun e w' => e = .returned (.tuple #[]) ∧ Below w.heap.size w w' := by
  have hchk := fun w => chk kd key val dl hk hd w
  have hc0 : (((Upd.mk kd key val dl).check : Nat) : Int) ≠ 0 := by omega
  generalize (Upd.mk kd key val dl).check = cc at *
  go_enter Tryz.func93, Tryz.ntmps93
  go_wp2_with fail
  refine (thread (hchk _) w.heap.size w (by go_grown) (by go_grown)).mono ?_
  rintro e w1 ⟨rfl, hB1, -, -, -, -⟩
  go_wp2_with fail
  exact bodyPost_ret (v := .tuple #[]) (by simp [results, Tryz.results93, go_sem]) rfl ⟨rfl, hB1⟩

theorem LeafAt.put {B p n : Nat} {l : List Ent} {w : World} {x : Value} {a : Option Addr} {c : Nat} (hn : l.length = n) (z1 : w.cell? ⟨p, 0, none⟩ = some x) (z2 : w.frozen? ⟨p, 0, none⟩ = false) (hown : w.ownsRow B 73 2 (.slice a n c) n (cellsE l)) (hne : (Value.slice a n c).ownBlock ≠ some p) (hlt : p < w.heap.size) (hB : B ≤ p) :
    LeafAt B p l (w.setCell ⟨p, 0, none⟩ (.slice a n c)) := by
  subst hn
  exact ⟨⟨a, c, World.cell?_setCell_same _ _ _ z1, ownsRow_setCell_other (a := ⟨p, 0, none⟩) hown hne _, hne⟩, by rw [World.frozen?_setCell]; exact z2, by rw [World.size_setCell]; exact hlt, hB⟩
theorem insE_len (l : List Ent) (i : Nat) (x : Ent) (h : i ≤ l.length) : (insE l i x).length = l.length + 1 := by simp [insE]; omega
theorem delE_len (l : List Ent) (i : Nat) (h : i < l.length) : (delE l i).length = l.length - 1 := by simp [delE]; omega

set_option maxRecDepth 100000 in
set_option maxHeartbeats 4000000 in
theorem on_nothing (B p : Nat) (l : List Ent) (kd : Nat) (key val : List UInt8) (dl : Nat) (w : World) (h : LeafAt B p l w) (hl : l.length ≤ 100000) (hr : Rising Ent.key l) (hk : kd < 256) (hd : dl < 18446744073709551616) (hc : (Upd.mk kd key val dl).check = 0) (i : Nat) (hi : below Ent.key l key = i) (hh : hasKey Ent.key l key = false) (y : List UInt8) (hy : onL [] false ⟨kd, key, val, dl⟩ = (y, false)) :
    Calls Tryz.prog 93 #[.pointer (some ⟨p, 0, none⟩), .agg #[.int .u8 kd, .string (S key), .string (S val), .int .u64 dl]] w fun e w' => e = .returned (.tuple #[]) ∧ LeafAt B p l w' ∧ Below B w w' := by
  have hchk := fun w => chk kd key val dl hk hd w
  rw [hc] at hchk
  have hfind := fun v w hv => findE v l key w hv (by omega) hr
  rw [hh, hi] at hfind
  have hon := fun w => on_any [] false kd key val dl (by simp) hk hd w
  simp only [onV, hy] at hon
  obtain ⟨⟨a, c, h1, h2, hne⟩, h3, h4, h5⟩ := h
  have HO := Lib.hid (OnAt.start (kd := kd) (key := key) (val := val) (dl := dl) 39 h1 h2 h3 h4 h5)
  have HF := Lib.hid hfind
  have HN := Lib.hid hon
  clear hfind hon hy hc h1 h2 h3 hr hi hh hk hd
  go_enter Tryz.func93, Tryz.ntmps93
  go_wp2_with fail
  refine (hchk _).mono ?_
  rintro e w1 ⟨rfl, hB1⟩
  have HO1 := Lib.hid (HO.out.on hB1)
  clear HO hchk hB1
  obtain ⟨c1, o1, f1, q0, q1, q2, q3, lt1, low1, -⟩ := HO1.out
  go_wp2_with fail
  go_region_held3 (fun w' => w'.cell? ⟨p, 0, none⟩ = some (.slice a l.length c) ∧ w'.cell? ⟨w.heap.size, 1, none⟩ = some (.string (S key)) ∧ OnAt B p w.heap.size a c l kd key val dl w w')
    (first | assumption | exact ⟨c1, q1, HO1.out.drew⟩ | exact ⟨HO2.out.cell, HO2.out.q1, HO2.out⟩)
    ((go_at_call 88; go_must (obtain ⟨x0, x1, x2⟩ := ‹_ ∧ _ ∧ OnAt _ _ _ _ _ _ _ _ _ _ _ _›; refine (HF.out _ _ ⟨_, rfl, (SlE.of_own x2.own).2⟩).mono ?_; rintro e w2 ⟨rfl, hB2⟩; have HO2 := Lib.hid (x2.on hB2))))
  clear c1 o1 f1 q0 q1 q2 q3 lt1 low1 HO1 HF
  obtain ⟨c2, o2, f2, q0, q1, q2, q3, lt2, low2, -⟩ := HO2.out
  go_wp2_with fail
  refine (HN.out _).mono ?_
  rintro e w3 ⟨rfl, hB3⟩
  have HO3 := Lib.hid (HO2.out.on hB3)
  have hB3' := hB3
  clear c2 o2 f2 q0 q1 q2 q3 lt2 low2 HO2 hB3 HN
  obtain ⟨c3, o3, f3, q0, q1, q2, q3, lt3, low3, base3⟩ := HO3.out
  go_wp2_with fail
  exact bodyPost_end (v := .tuple #[]) (by simp [results, Tryz.results93, go_sem]) rfl ⟨rfl, ⟨⟨a, c, c3, o3, hne⟩, f3, lt3, h5⟩, low3⟩

set_option maxRecDepth 100000 in
set_option maxHeartbeats 4000000 in
theorem on_new (B p : Nat) (l : List Ent) (kd : Nat) (key val : List UInt8) (dl : Nat) (w : World) (h : LeafAt B p l w) (hl : l.length ≤ 100000) (hr : Rising Ent.key l) (hk : kd < 256) (hd : dl < 18446744073709551616) (hc : (Upd.mk kd key val dl).check = 0) (i : Nat) (hi : below Ent.key l key = i) (hh : hasKey Ent.key l key = false) (hil : i ≤ l.length) (y : List UInt8) (hy : onL [] false ⟨kd, key, val, dl⟩ = (y, true)) :
    Calls Tryz.prog 93 #[.pointer (some ⟨p, 0, none⟩), .agg #[.int .u8 kd, .string (S key), .string (S val), .int .u64 dl]] w fun e w' => e = .returned (.tuple #[]) ∧ LeafAt B p (insE l i ⟨key, y⟩) w' ∧ Below B w w' := by
  have hchk := fun w => chk kd key val dl hk hd w
  rw [hc] at hchk
  have hfind := fun v w hv => findE v l key w hv (by omega) hr
  rw [hh, hi] at hfind
  have hon := fun w => on_any [] false kd key val dl (by simp) hk hd w
  simp only [onV, hy] at hon
  obtain ⟨⟨a, c, h1, h2, hne⟩, h3, h4, h5⟩ := h
  have HO := Lib.hid (OnAt.start (kd := kd) (key := key) (val := val) (dl := dl) 39 h1 h2 h3 h4 h5)
  have HF := Lib.hid hfind
  have HN := Lib.hid hon
  clear hfind hon hy hc h1 h2 h3 hr hi hh hk hd
  go_enter Tryz.func93, Tryz.ntmps93
  go_wp2_with fail
  refine (hchk _).mono ?_
  rintro e w1 ⟨rfl, hB1⟩
  have HO1 := Lib.hid (HO.out.on hB1)
  clear HO hchk hB1
  obtain ⟨c1, o1, f1, q0, q1, q2, q3, lt1, low1, -⟩ := HO1.out
  go_wp2_with fail
  go_region_held3 (fun w' => w'.cell? ⟨p, 0, none⟩ = some (.slice a l.length c) ∧ w'.cell? ⟨w.heap.size, 1, none⟩ = some (.string (S key)) ∧ OnAt B p w.heap.size a c l kd key val dl w w')
    (first | assumption | exact ⟨c1, q1, HO1.out.drew⟩ | exact ⟨HO2.out.cell, HO2.out.q1, HO2.out⟩)
    ((go_at_call 88; go_must (obtain ⟨x0, x1, x2⟩ := ‹_ ∧ _ ∧ OnAt _ _ _ _ _ _ _ _ _ _ _ _›; refine (HF.out _ _ ⟨_, rfl, (SlE.of_own x2.own).2⟩).mono ?_; rintro e w2 ⟨rfl, hB2⟩; have HO2 := Lib.hid (x2.on hB2))))
  clear c1 o1 f1 q0 q1 q2 q3 lt1 low1 HO1 HF
  obtain ⟨c2, o2, f2, q0, q1, q2, q3, lt2, low2, -⟩ := HO2.out
  go_wp2_with fail
  refine (HN.out _).mono ?_
  rintro e w3 ⟨rfl, hB3⟩
  have HO3 := Lib.hid (HO2.out.on hB3)
  have hB3' := hB3
  clear c2 o2 f2 q0 q1 q2 q3 lt2 low2 HO2 hB3 HN
  obtain ⟨c3, o3, f3, q0, q1, q2, q3, lt3, low3, base3⟩ := HO3.out
  have hI := Lib.hid (insertE B (.slice a l.length c) l i ⟨key, y⟩ w3.heap.size (w3.drew.alloc (.cells #[.string (S key), .string (S y)] 73)) (o3.drew.alloc _) (by simp; have := low3.size; omega) hil (by omega) (RowIs.new w3.drew 73 (Ent.cells ⟨key, y⟩)) (fun e => by have := (o3.lt _ e).2; omega))
  have hlow := Lib.hid ((below_drew' low3).alloc (Nat.le_trans base3 low3.size) (.cells #[.string (S key), .string (S y)] 73))
  have hob := fun k (e : (Value.slice a l.length c).ownBlock = some k) => (o3.lt k e).1
  have hbz := Nat.le_trans base3 low3.size
  clear o3
  go_wp2_with fail
  go_region_law (first | (go_simp; go_at_call 128; refine (hI.out).mono ?_; rintro e w5 ⟨v3, rfl, hown3, hg3, hat3⟩; have z1 := hg3.cell (cell_past _ (cell_drew c3)) (by simpa using fun e => hne e.symm); have z2 : w5.frozen? ⟨p, 0, none⟩ = false := (World.frozen?_of_block (hg3.block p (by simp; omega) (fun e => hne e.symm))).trans (by rw [World.frozen?_alloc_old _ _ _ (by show p ≠ _; simp; omega)]; exact frozen_drew f3); obtain ⟨a3, c3', e3⟩ := own_form hown3; subst e3))
  all_goals (
    go_wp2_with fail
    refine bodyPost_end (v := .tuple #[]) (by simp [results, Tryz.results93, go_sem]) rfl ⟨rfl, LeafAt.put (insE_len l i _ hil) z1 z2 hown3 ?_ (Nat.lt_of_lt_of_le lt3 (Nat.le_trans (by simp) hg3.size)) h5, (below_grown hlow.out hg3 hob (by simp; omega)).setCell (p := ⟨p, 0, none⟩) h5 _⟩
    rcases hat3 with hat | hat
    · rw [hat]; exact hne
    · rw [hat]; intro e; simp at e; omega)

set_option maxRecDepth 100000 in
set_option maxHeartbeats 4000000 in
theorem on_set (B p : Nat) (l : List Ent) (kd : Nat) (key val : List UInt8) (dl : Nat) (w : World) (h : LeafAt B p l w) (hl : l.length ≤ 100000) (hr : Rising Ent.key l) (hk : kd < 256) (hd : dl < 18446744073709551616) (hc : (Upd.mk kd key val dl).check = 0) (i : Nat) (hi : below Ent.key l key = i) (hh : hasKey Ent.key l key = true) (hil : i < l.length) (hky : l[i].key = key) (old : List UInt8) (ho : l[i].val = old) (hvl : old.length ≤ 1000000) (y : List UInt8) (hy : onL old true ⟨kd, key, val, dl⟩ = (y, true)) :
    Calls Tryz.prog 93 #[.pointer (some ⟨p, 0, none⟩), .agg #[.int .u8 kd, .string (S key), .string (S val), .int .u64 dl]] w fun e w' => e = .returned (.tuple #[]) ∧ LeafAt B p (l.set i ⟨key, y⟩) w' ∧ Below B w w' := by
  have hchk := fun w => chk kd key val dl hk hd w
  rw [hc] at hchk
  have hfind := fun v w hv => findE v l key w hv (by omega) hr
  rw [hh, hi] at hfind
  have hon := fun w => on_any old true kd key val dl hvl hk hd w
  simp only [onV, hy] at hon
  obtain ⟨⟨a, c, h1, h2, hne⟩, h3, h4, h5⟩ := h
  have HO := Lib.hid (OnAt.start (kd := kd) (key := key) (val := val) (dl := dl) 39 h1 h2 h3 h4 h5)
  have HF := Lib.hid hfind
  have HN := Lib.hid hon
  clear hfind hon hy hc h1 h2 h3 hr hi hh hk hd
  go_enter Tryz.func93, Tryz.ntmps93
  go_wp2_with fail
  refine (hchk _).mono ?_
  rintro e w1 ⟨rfl, hB1⟩
  have HO1 := Lib.hid (HO.out.on hB1)
  clear HO hchk hB1
  obtain ⟨c1, o1, f1, q0, q1, q2, q3, lt1, low1, -⟩ := HO1.out
  go_wp2_with fail
  go_region_held3 (fun w' => w'.cell? ⟨p, 0, none⟩ = some (.slice a l.length c) ∧ w'.cell? ⟨w.heap.size, 1, none⟩ = some (.string (S key)) ∧ OnAt B p w.heap.size a c l kd key val dl w w')
    (first | assumption | exact ⟨c1, q1, HO1.out.drew⟩ | exact ⟨HO2.out.cell, HO2.out.q1, HO2.out⟩)
    ((go_at_call 88; go_must (obtain ⟨x0, x1, x2⟩ := ‹_ ∧ _ ∧ OnAt _ _ _ _ _ _ _ _ _ _ _ _›; refine (HF.out _ _ ⟨_, rfl, (SlE.of_own x2.own).2⟩).mono ?_; rintro e w2 ⟨rfl, hB2⟩; have HO2 := Lib.hid (x2.on hB2))))
  clear c1 o1 f1 q0 q1 q2 q3 lt1 low1 HO1 HF
  obtain ⟨c2, o2, f2, q0, q1, q2, q3, lt2, low2, -⟩ := HO2.out
  obtain ⟨g, rfl, hgB, hgl, hrow⟩ := own_at o2 (by omega)
  have t1 := hrow (i * 2 + 1) (.string (S l[i].val)) (cellsE_get l i hil 1 _ rfl)
  rw [ho] at t1
  have hi0 : (0 : Int) ≤ (i : Int) := by omega
  have hi1 : (i : Int) < (l.length : Int) := by omega
  clear hrow
  go_wp2_with fail
  refine (HN.out _).mono ?_
  rintro e w3 ⟨rfl, hB3⟩
  have HO3 := Lib.hid (HO2.out.on hB3)
  have hB3' := hB3
  clear c2 o2 f2 q0 q1 q2 q3 lt2 low2 HO2 hB3 HN
  obtain ⟨c3, o3, f3, q0, q1, q2, q3, lt3, low3, base3⟩ := HO3.out
  have hgp : p ≠ g := fun e => hne (by rw [e]; rfl)
  have u1 := (cell_below (w := w2) (w' := w3) (B := w2.heap.size) hB3' hgl _).trans t1
  have uf := o3.frozenAt
  have hset := (o3.stored (i * 2 + 1) (.string (S y))).1
  rw [cellsE_set l i y hil, hky] at hset
  go_wp2_with fail
  exact bodyPost_end (v := .tuple #[]) (by simp [results, Tryz.results93, go_sem]) rfl ⟨rfl, ⟨⟨some ⟨g, 0, none⟩, c, by rw [List.length_set]; exact far_block hgp c3, by rw [List.length_set]; exact hset, by rw [List.length_set]; exact hne⟩, by rw [World.frozen?_setCell]; exact f3, by rw [World.size_setCell]; exact lt3, h5⟩, low3.setCell (p := ⟨g, i * 2 + 1, none⟩) hgB _⟩

set_option maxRecDepth 100000 in
set_option maxHeartbeats 4000000 in
theorem on_del (B p : Nat) (l : List Ent) (kd : Nat) (key val : List UInt8) (dl : Nat) (w : World) (h : LeafAt B p l w) (hl : l.length ≤ 100000) (hr : Rising Ent.key l) (hk : kd < 256) (hd : dl < 18446744073709551616) (hc : (Upd.mk kd key val dl).check = 0) (i : Nat) (hi : below Ent.key l key = i) (hh : hasKey Ent.key l key = true) (hil : i < l.length) (_hky : l[i].key = key) (old : List UInt8) (ho : l[i].val = old) (hvl : old.length ≤ 1000000) (y : List UInt8) (hy : onL old true ⟨kd, key, val, dl⟩ = (y, false)) :
    Calls Tryz.prog 93 #[.pointer (some ⟨p, 0, none⟩), .agg #[.int .u8 kd, .string (S key), .string (S val), .int .u64 dl]] w fun e w' => e = .returned (.tuple #[]) ∧ LeafAt B p (delE l i) w' ∧ Below B w w' := by
  have hchk := fun w => chk kd key val dl hk hd w
  rw [hc] at hchk
  have hfind := fun v w hv => findE v l key w hv (by omega) hr
  rw [hh, hi] at hfind
  have hon := fun w => on_any old true kd key val dl hvl hk hd w
  simp only [onV, hy] at hon
  obtain ⟨⟨a, c, h1, h2, hne⟩, h3, h4, h5⟩ := h
  have HO := Lib.hid (OnAt.start (kd := kd) (key := key) (val := val) (dl := dl) 39 h1 h2 h3 h4 h5)
  have HF := Lib.hid hfind
  have HN := Lib.hid hon
  clear hfind hon hy hc h1 h2 h3 hr hi hh hk hd
  go_enter Tryz.func93, Tryz.ntmps93
  go_wp2_with fail
  refine (hchk _).mono ?_
  rintro e w1 ⟨rfl, hB1⟩
  have HO1 := Lib.hid (HO.out.on hB1)
  clear HO hchk hB1
  obtain ⟨c1, o1, f1, q0, q1, q2, q3, lt1, low1, -⟩ := HO1.out
  go_wp2_with fail
  go_region_held3 (fun w' => w'.cell? ⟨p, 0, none⟩ = some (.slice a l.length c) ∧ w'.cell? ⟨w.heap.size, 1, none⟩ = some (.string (S key)) ∧ OnAt B p w.heap.size a c l kd key val dl w w')
    (first | assumption | exact ⟨c1, q1, HO1.out.drew⟩ | exact ⟨HO2.out.cell, HO2.out.q1, HO2.out⟩)
    ((go_at_call 88; go_must (obtain ⟨x0, x1, x2⟩ := ‹_ ∧ _ ∧ OnAt _ _ _ _ _ _ _ _ _ _ _ _›; refine (HF.out _ _ ⟨_, rfl, (SlE.of_own x2.own).2⟩).mono ?_; rintro e w2 ⟨rfl, hB2⟩; have HO2 := Lib.hid (x2.on hB2))))
  clear c1 o1 f1 q0 q1 q2 q3 lt1 low1 HO1 HF
  obtain ⟨c2, o2, f2, q0, q1, q2, q3, lt2, low2, -⟩ := HO2.out
  obtain ⟨g, rfl, hgB, hgl, hrow⟩ := own_at o2 (by omega)
  have t1 := hrow (i * 2 + 1) (.string (S l[i].val)) (cellsE_get l i hil 1 _ rfl)
  rw [ho] at t1
  have hi0 : (0 : Int) ≤ (i : Int) := by omega
  have hi1 : (i : Int) < (l.length : Int) := by omega
  clear hrow
  go_wp2_with fail
  refine (HN.out _).mono ?_
  rintro e w3 ⟨rfl, hB3⟩
  have HO3 := Lib.hid (HO2.out.on hB3)
  have hB3' := hB3
  clear c2 o2 f2 q0 q1 q2 q3 lt2 low2 HO2 hB3 HN
  obtain ⟨c3, o3, f3, q0, q1, q2, q3, lt3, low3, base3⟩ := HO3.out
  have hD := Lib.hid (deleteE B (.slice (some ⟨g, 0, none⟩) l.length c) l i w3 o3 hil (by omega))
  have hwr : IntKind.i64.wrap ((i : Int) + 1) = (i : Int) + 1 := by rw [IntKind.wrap_i64]; omega
  have hob := fun k (e : (Value.slice (some ⟨g, 0, none⟩) l.length c).ownBlock = some k) => (o3.lt k e).1
  have hbz := Nat.le_trans base3 low3.size
  clear o3
  go_wp2_with fail
  refine (hD.out).mono ?_
  rintro e w5 ⟨⟨v3, rfl, hown3, hat3⟩, hg3⟩
  have z1 := hg3.cell c3 (by simpa using fun e => hne e.symm)
  have z2 : w5.frozen? ⟨p, 0, none⟩ = false := (World.frozen?_of_block (hg3.block p (by omega) (fun e => hne e.symm))).trans f3
  obtain ⟨a3, c3', e3⟩ := own_form hown3
  subst e3
  go_wp2_with fail
  refine bodyPost_end (v := .tuple #[]) (by simp [results, Tryz.results93, go_sem]) rfl ⟨rfl, LeafAt.put rfl z1 z2 hown3 (by rw [hat3]; exact hne) (Nat.lt_of_lt_of_le lt3 hg3.size) h5, (below_grown low3 hg3 hob hbz).setCell (p := ⟨p, 0, none⟩) h5 _⟩

theorem LeafAt.le {B p : Nat} {l : List Ent} {w : World} (h : LeafAt B p l w) : B ≤ w.heap.size := Nat.le_trans h.base (Nat.le_of_lt h.lt)
/-- What an update makes of a leaf in its box. -/
theorem leaf_on (B p : Nat) (l : List Ent) (kd : Nat) (key val : List UInt8) (dl : Nat) (w : World) (h : LeafAt B p l w) (hl : l.length ≤ 100000) (hr : Rising Ent.key l) (hv : ∀ e ∈ l, e.val.length ≤ 1000000) (hk : kd < 256) (hd : dl < 18446744073709551616) :
    Calls Tryz.prog 93 #[.pointer (some ⟨p, 0, none⟩), .agg #[.int .u8 kd, .string (S key), .string (S val), .int .u64 dl]] w fun e w' => e = .returned (.tuple #[]) ∧ LeafAt B p (onE l ⟨kd, key, val, dl⟩) w' ∧ Below B w w' := by
  by_cases hc : (Upd.mk kd key val dl).check = 0
  · have hc' : ¬ (Upd.mk kd key val dl).check ≠ 0 := by simp [hc]
    unfold onE newE
    rw [if_neg hc']
    cases hh : hasKey Ent.key l key with
    | false =>
      obtain ⟨y, is, hy⟩ : ∃ y is, onL [] false ⟨kd, key, val, dl⟩ = (y, is) := ⟨_, _, rfl⟩
      cases is with
      | false => simpa [hh, hy] using on_nothing B p l kd key val dl w h hl hr hk hd hc _ rfl hh y hy
      | true => simpa [hh, hy] using on_new B p l kd key val dl w h hl hr hk hd hc _ rfl hh (below_le l key) y hy
    | true =>
      obtain ⟨hlt, hkey⟩ := (hr.found key).1 hh
      have ho : oldE l key = (l[below Ent.key l key]'hlt).val := by unfold oldE; rw [List.getElem?_eq_getElem hlt]; rfl
      obtain ⟨y, is, hy⟩ : ∃ y is, onL (oldE l key) true ⟨kd, key, val, dl⟩ = (y, is) := ⟨_, _, rfl⟩
      have hvl : (oldE l key).length ≤ 1000000 := by rw [ho]; exact hv _ (List.getElem_mem _)
      cases is with
      | false => simpa [hh, hy] using on_del B p l kd key val dl w h hl hr hk hd hc _ rfl hh hlt hkey _ ho.symm hvl y hy
      | true => simpa [hh, hy] using on_set B p l kd key val dl w h hl hr hk hd hc _ rfl hh hlt hkey _ ho.symm hvl y hy
  · unfold onE
    rw [if_pos hc]
    refine (on_refused p kd key val dl w hk hd hc).mono ?_
    rintro e w' ⟨rfl, hb⟩
    exact ⟨rfl, h.on hb, hb.mono h.le⟩

end Go.Proofs.YtafciefjlkdecaaGreat
