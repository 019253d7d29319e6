/-
  The walks of the statements' same, and of a model's Equal.
-/
import Derived.Test.YthcjcmalfnfjkaaMeq
import Derived.Test.YthcjcmalfnfjkaaMsc
namespace Go.Proofs.Ythcjcmalfnfjkaa
open Go.RowKit Go.Maps Go.WideShapes Go.Shelf
set_option linter.unusedVariables false

set_option maxRecDepth 100000 in
set_option maxHeartbeats 4000000 in
theorem same29_any (a1 : Option Addr) (c1 : Nat) (a2 : Option Addr) (c2 : Nat) (x y : List Ent) (w : World) (hx : SlAt Ent.cells 2 w a1 x) (hy : SlAt Ent.cells 2 w a2 y) (hlx : x.length ≤ 1000000) (hly : y.length ≤ 1000000) :
    Calls Try.prog 22 #[.slice a1 x.length c1, .slice a2 y.length c2] w fun e w' => e = .returned (.bool (decide (x = y))) ∧ Below w.heap.size w w' := by
  have hund := entR_guard
  have hneq := entR_neq
  by_cases hlen : x.length = y.length
  · have hlen' : (x.length : Int) = (y.length : Int) := by omega
    go_enter Try.func22, Try.ntmps22
    go_wp2_with fail
    go_loopw [13] (fun i wr => ∃ j : Nat, i = .int .i64 j ∧ j ≤ x.length ∧ Hid (x.take j = y.take j) ∧ Below w.heap.size w wr) (fun i _ => x.length - (intOf i).toNat)
    case atStart => exact ⟨0, rfl, Nat.zero_le _, Lib.hid (by simp), Below.refl _ _⟩
    case round =>
      obtain ⟨j, rfl, hj, HT, hB⟩ := hrel
      have hj0 : (0 : Int) ≤ (j : Int) := Int.natCast_nonneg _
      by_cases hjl : j < x.length
      · have hj1 : (j : Int) < (x.length : Int) := by omega
        have hjy : j < y.length := by omega
        have hj2 : (j : Int) < (y.length : Int) := by omega
        obtain ⟨b, off, rfl, hb, t0, t1⟩ := SlAt.cells2 hx j hjl
        obtain ⟨b', off', rfl, hb', s0, s1⟩ := SlAt.cells2 hy j hjy
        have q0 := cell_drew ((cell_below hB hb _).trans t0)
        have q1 := cell_drew ((cell_below hB hb _).trans t1)
        have p0 := cell_drew ((cell_below hB hb' _).trans s0)
        have p1 := cell_drew ((cell_below hB hb' _).trans s1)
        have HA := Lib.hid (show x.take (j + 1) = x.take j ++ [x[j]] from List.take_succ_eq_append_getElem hjl)
        have HB := Lib.hid (show y.take (j + 1) = y.take j ++ [y[j]] from List.take_succ_eq_append_getElem hjy)
        have HC := Lib.hid (show x[j] ≠ y[j] → x ≠ y from fun hne e => hne (by subst e; rfl))
        clear t0 t1 s0 s1
        generalize x[j] = u at *
        generalize y[j] = v at *
        have hnq := fun W => hneq u v W
        by_cases huv : u = v
        · have hd : decide (u ≠ v) = false := by simp [huv]
          rw [hd] at hnq
          subst huv
          go_wp2_with fail
          go_region
          go_wp2_with fail
          exact ⟨⟨j + 1, by go_num, by omega, Lib.hid (by rw [HA.out, HB.out, HT.out]), by go_grown⟩, by simp [intOf]; omega⟩
        · have hd : decide (u ≠ v) = true := by simp [huv]
          rw [hd] at hnq
          have hne := HC.out huv
          go_wp2_with fail
          go_region
          go_wp2_with fail
          go_ret
          exact ⟨by simp [hne], by go_grown⟩
      · obtain rfl : j = x.length := by omega
        have he : x = y := by have := HT.out; rw [List.take_length] at this; rw [this]; rw [hlen, List.take_length]
        go_wp2_with fail
        go_ret
        exact ⟨by simp [he], by go_grown⟩
  · have hlen' : ¬ (x.length : Int) = (y.length : Int) := by omega
    have hne : x ≠ y := fun e => hlen (by rw [e])
    go_enter Try.func22, Try.ntmps22
    go_wp2_with fail
    go_ret
    exact ⟨by simp [hne], by go_grown⟩

set_option maxRecDepth 100000 in
set_option maxHeartbeats 4000000 in
theorem modEq_any (p b : Nat) (l : List Ent) (a2 : Option Addr) (c2 : Nat) (y : List Ent) (w : World) (h : ModAt w p b l) (hy : SlAt Ent.cells 2 w a2 y) (hl : l.length ≤ 1000) (hly : y.length ≤ 1000000) :
    Calls Try.prog 20 #[.pointer (some ⟨p, 0, none⟩), .slice a2 y.length c2] w fun e w' => e = .returned (.bool (decide (l = y))) ∧ Below w.heap.size w w' := by
  have HH := Lib.hid h
  have HY := Lib.hid hy
  clear h hy
  go_enter Try.func20, Try.ntmps20
  go_wp2_with fail
  refine (modLen_any p b l w HH.out).mono ?_
  rintro e w1 ⟨rfl, hB1⟩
  have HH1 := Lib.hid (HH.out.below hB1)
  have HY1 := Lib.hid (HY.out.kept hB1 (Nat.le_refl _))
  go_wp2_with fail
  refine (modScan_any p b l l.length w1 HH1.out hl (by omega)).mono ?_
  rintro e w2 ⟨⟨v, rfl, hrow⟩, hB2⟩
  rw [List.take_length] at hrow
  obtain ⟨hn, hse⟩ := SlE.of_own hrow
  obtain ⟨a1, c1, rfl, hs1, -⟩ := hse
  have HS := Lib.hid hs1
  have HY2 := Lib.hid (HY1.out.kept hB2 (Nat.le_refl _))
  have HB := Lib.hid (hB1.trans (hB2.mono hB1.size))
  clear hrow hs1 hn hB1 hB2
  go_wp2_with fail
  refine (eqE_any a1 c1 a2 c2 l y w2 HS.out HY2.out (by omega) hly).mono ?_
  rintro e w3 ⟨rfl, hB3⟩
  go_wp2_with fail
  go_ret
  exact ⟨rfl, HB.out.trans (hB3.mono HB.out.size)⟩

end Go.Proofs.Ythcjcmalfnfjkaa
