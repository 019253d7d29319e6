/-
  The walk of the leaf statements' same, at a leaf that is the document's.
-/
import Derived.Test.YtcjeonamebnpfaaLeafG
import Derived.Test.YtcjeonamebnpfaaEntE
import Derived.BigQuiet
import Derived.Deep.DrawnRows
namespace Go.Proofs.Ytcjeonamebnpfaa
open Go.RowKit
attribute [local go_sem ↓] Go.wp_at_zero Go.wp_at_succ

theorem lenE_next (a : Option Addr) (n c : Nat) (w : World) :
    Calls Try.prog 19 #[.agg #[.slice a n c]] w fun e w' => e = .returned (.int .i64 n) ∧ Below w.heap.size w w' := by
  go_enter Try.func19, Try.ntmps19
  go_wp2
  go_ret
  exact ⟨rfl, by go_grown⟩
set_option maxRecDepth 100000 in
set_option maxHeartbeats 4000000 in
theorem sameE_any (a : Option Addr) (n c : Nat) (a2 : Option Addr) (c2 : Nat) (l : List Ent) (w : World) (hn : n = l.length) (hv : BoxE w (.agg #[.slice a n c]) l) (hs : SlE w (.slice a2 n c2) l) (hl : l.length ≤ 100000) (hr : Rising Ent.key l) :
    Calls Try.prog 28 #[.agg #[.slice a n c], .slice a2 n c2] w fun e w' => e = .returned (.bool true) ∧ Below w.heap.size w w' := by
  have HV := Lib.hid hv
  have HS := Lib.hid hs
  have HN := Lib.hid hn
  have HR := Lib.hid hr
  clear hv hs hn hr
  go_enter Try.func28, Try.ntmps28
  go_wp2_with fail
  refine (thread (listE_next a n c l _ HN.out (HV.out.kept (by go_grown) (Nat.le_refl _)) (by omega)) w.heap.size w (by go_grown) (by go_grown)).mono ?_
  rintro e w1 ⟨⟨a1, c1, rfl, hown⟩, hB1, hk1, -, -, hz1⟩
  have p0 : w1.cell? ⟨w.heap.size, 0, none⟩ = some (.slice a n c) := (hk1 w.heap.size 0 (by simp)).trans (by simp)
  have hu1 : w.heap.size < w1.heap.size := World.block_lt_of_cell? w1 _ p0
  have HO := Lib.hid hown
  clear hk1 hown
  go_wp2_with fail
  refine (thread (lenE_next a n c w1) w1.heap.size w1 (by go_grown) (by go_grown)).mono ?_
  rintro e w2 ⟨rfl, hX2, -, -, -, hz2⟩
  have p1 := kept_cell hX2 p0
  have HO2 := Lib.hid (own_below HO.out hX2)
  have hB2 := hB1.trans (hX2.mono hz1)
  have hu2 : w.heap.size < w2.heap.size := by omega
  have hneq := fun a b w => ent_neq_same a b w
  have hgrd := fun op x y xs ys w => ent_guard op x y xs ys w
  clear p0 HO hX2
  go_wp2_with fail
  go_loopw [26] (fun i wr => ∃ j : Nat, i = .int .i64 j ∧ j ≤ n ∧ Below w2.heap.size w2 wr) (fun i _ => n - (intOf i).toNat)
  case atStart => exact ⟨0, rfl, Nat.zero_le _, Below.refl _ _⟩
  case round =>
    obtain ⟨j, rfl, hj, hB⟩ := hrel
    have hj0 : (0 : Int) ≤ (j : Int) := Int.natCast_nonneg _
    by_cases hjn : j < n
    · have hj1 : (j : Int) < (n : Int) := by omega
      have hjl : j < l.length := by have := HN.out; omega
      have hBw := hB2.trans (hB.mono (by omega))
      obtain ⟨g, rfl, -, hg, hrow⟩ := own_at HO2.out (by omega)
      have t0 := (cell_below hB hg _).trans (hrow (j * 2 + 0) _ (cellsE_get l j hjl 0 _ rfl))
      have t1 := (cell_below hB hg _).trans (hrow (j * 2 + 1) _ (cellsE_get l j hjl 1 _ rfl))
      rw [Nat.add_zero] at t0
      have p2 := kept_cell hB p1
      obtain ⟨b2, off2, rfl, hb2, r0, r1⟩ := SlE.cells2 (HS.out.kept hBw (Nat.le_refl _)) j hjl
      have hlk := lookE_at HR.out j hjl
      have hget := fun w h => getE_any (.agg #[.slice a n c]) l l[j].key w h hl HR.out
      rw [hlk] at hget
      simp only [valV] at hget
      have HV2 := Lib.hid (HV.out.kept hBw (Nat.le_refl _))
      have HG := Lib.hid hget
      clear hlk hrow hget
      generalize l[j] = u at *
      have p3 := cell_past (.cells #[.string (S u.key), .string (S u.val)] 54) p2
      have hlt : w.heap.size < wr.heap.size := by have := hB.size; omega
      go_wp2_with fail
      refine (thread (HG.out _ (HV2.out.kept (by go_grown) (Nat.le_refl _))) wr.heap.size wr (by go_grown) (by go_grown)).mono ?_
      rintro e w3 ⟨rfl, hX3, hk3, -, -, hz3⟩
      have e0 : w3.cell? ⟨wr.heap.size, 0, none⟩ = some (.string (S u.key)) := (hk3 wr.heap.size 0 (by simp)).trans (by simp)
      have e1 : w3.cell? ⟨wr.heap.size, 1, none⟩ = some (.string (S u.val)) := (hk3 wr.heap.size 1 (by simp)).trans (by simp)
      have r2 := kept_cell hX3 r0
      have r3 := kept_cell hX3 r1
      have hB3 := hB.trans (hX3.mono hB.size)
      clear hk3 HG HV2 r0 r1
      go_wp2_with fail
      go_quiet (fail)
      go_wp2_with fail
      go_roundw
      (case rel => exact (⟨j + 1, by go_num, by omega, below_drewN hB3 _⟩))
      (case measure => first | (simp [intOf]; done) | (simp [intOf]; omega))
    · obtain rfl : j = n := by omega
      go_wp2_with fail
      go_ret
      exact ⟨rfl, hB2.trans (hB.mono (by omega))⟩

end Go.Proofs.Ytcjeonamebnpfaa
