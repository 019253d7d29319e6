/-
  The walk of the buffer statements' same.
-/
import Derived.Test.YtcjeonamebnpfaaUpdB
import Derived.Test.YtcjeonamebnpfaaBufG
import Derived.BigQuiet
import Derived.Deep.DrawnRows
namespace Go.Proofs.Ytcjeonamebnpfaa
open Go.RowKit
attribute [local go_sem ↓] Go.wp_at_zero Go.wp_at_succ

theorem lenU_next (a : Option Addr) (n c : Nat) (w : World) :
    Calls Try.prog 22 #[.agg #[.slice a n c]] w fun e w' => e = .returned (.int .i64 n) ∧ Below w.heap.size w w' := by
  go_enter Try.func22, Try.ntmps22
  go_wp2
  go_ret
  exact ⟨rfl, by go_grown⟩
set_option maxRecDepth 100000 in
set_option maxHeartbeats 8000000 in
theorem sameU_any (a : Option Addr) (n c : Nat) (a2 : Option Addr) (c2 : Nat) (l : List Upd) (w : World) (hn : n = l.length) (hv : BoxU w (.agg #[.slice a n c]) l) (hs : SlU w (.slice a2 n c2) l) (hl : l.length ≤ 100000) (hr : Rising Upd.key l) :
    Calls Try.prog 37 #[.agg #[.slice a n c], .slice a2 n c2] w fun e w' => e = .returned (.bool true) ∧ Below w.heap.size w w' := by
  have HV := Lib.hid hv
  have HS := Lib.hid hs
  have HN := Lib.hid hn
  have HR := Lib.hid hr
  clear hv hs hn hr
  go_enter Try.func37, Try.ntmps37
  go_wp2_with fail
  refine (thread (list_next a n c l _ HN.out (HV.out.kept (by go_grown) (Nat.le_refl _)) (by omega)) w.heap.size w (by go_grown) (by go_grown)).mono ?_
  rintro e w1 ⟨⟨a1, c1, rfl, hown⟩, hB1, hk1, -, -, hz1⟩
  have p0 : w1.cell? ⟨w.heap.size, 0, none⟩ = some (.slice a n c) := (hk1 w.heap.size 0 (by simp)).trans (by simp)
  have hu1 : w.heap.size < w1.heap.size := World.block_lt_of_cell? w1 _ p0
  have HO := Lib.hid hown
  clear hk1 hown
  go_wp2_with fail
  refine (thread (lenU_next a n c w1) w1.heap.size w1 (by go_grown) (by go_grown)).mono ?_
  rintro e w2 ⟨rfl, hX2, -, -, -, hz2⟩
  have p1 := kept_cell hX2 p0
  have HO2 := Lib.hid (own_below HO.out hX2)
  have hB2 := hB1.trans (hX2.mono hz1)
  have hu2 : w.heap.size < w2.heap.size := by omega
  have hneq := fun k d a b w => upd_neq_same k d a b w
  have hgrd := fun op x y xs ys w => upd_guard op x y xs ys w
  clear p0 HO hX2
  go_wp2_with fail
  go_loopw [26] (fun i wr => ∃ j : Nat, i = .int .i64 j ∧ j ≤ n ∧ Below w2.heap.size w2 wr) (fun i _ => n - (intOf i).toNat)
  case atStart => exact ⟨0, rfl, Nat.zero_le _, Below.refl _ _⟩
  case round =>
    obtain ⟨j, rfl, hj, hB⟩ := hrel
    have hj0 : (0 : Int) ≤ (j : Int) := Int.natCast_nonneg _
    by_cases hjn : j < n
    · have hj1 : (j : Int) < (n : Int) := by omega
      have hjl : j < l.length := by have := HN.out; omega
      have hBw := hB2.trans (hB.mono (by omega))
      obtain ⟨g, rfl, -, hg, hrow⟩ := own_at HO2.out (by omega)
      have t0 := (cell_below hB hg _).trans (hrow (j * 4 + 0) _ (cellsU_get l j hjl 0 _ rfl))
      have t1 := (cell_below hB hg _).trans (hrow (j * 4 + 1) _ (cellsU_get l j hjl 1 _ rfl))
      have t2 := (cell_below hB hg _).trans (hrow (j * 4 + 2) _ (cellsU_get l j hjl 2 _ rfl))
      have t3 := (cell_below hB hg _).trans (hrow (j * 4 + 3) _ (cellsU_get l j hjl 3 _ rfl))
      rw [Nat.add_zero] at t0
      have p2 := kept_cell hB p1
      obtain ⟨b2, off2, rfl, hb2, r0, r1, r2, r3⟩ := (HS.out.kept hBw (Nat.le_refl _)).cells4 j hjl
      have hget := fun w h => get_any (.agg #[.slice a n c]) l l[j].key w h hl HR.out
      rw [getL_some HR.out j hjl] at hget
      simp only [getV, updV] at hget
      have HV2 := Lib.hid (HV.out.kept hBw (Nat.le_refl _))
      have HG := Lib.hid hget
      clear hrow hget
      generalize l[j] = u at *
      have p3 := cell_past (.cells #[.int .u8 u.kind, .string (S u.key), .string (S u.val), .int .u64 u.delta] 31) p2
      have hlt : w.heap.size < wr.heap.size := by have := hB.size; omega
      go_wp2_with fail
      refine (thread (HG.out _ (HV2.out.kept (by go_grown) (Nat.le_refl _))) wr.heap.size wr (by go_grown) (by go_grown)).mono ?_
      rintro e w3 ⟨rfl, hX3, hk3, -, -, hz3⟩
      have e0 : w3.cell? ⟨wr.heap.size, 0, none⟩ = some (.int .u8 u.kind) := (hk3 wr.heap.size 0 (by simp)).trans (by simp)
      have e1 : w3.cell? ⟨wr.heap.size, 1, none⟩ = some (.string (S u.key)) := (hk3 wr.heap.size 1 (by simp)).trans (by simp)
      have e2 : w3.cell? ⟨wr.heap.size, 2, none⟩ = some (.string (S u.val)) := (hk3 wr.heap.size 2 (by simp)).trans (by simp)
      have e3 : w3.cell? ⟨wr.heap.size, 3, none⟩ = some (.int .u64 u.delta) := (hk3 wr.heap.size 3 (by simp)).trans (by simp)
      have r0 := kept_cell hX3 r0
      have r1 := kept_cell hX3 r1
      have r2 := kept_cell hX3 r2
      have r3 := kept_cell hX3 r3
      have hB3 := hB.trans (hX3.mono hB.size)
      have hs3 := hB3.size
      have e0 := cell_past (.cells #[.int .u8 u.kind, .string (S u.key), .string (S u.val), .int .u64 u.delta] 31) e0
      have e1 := cell_past (.cells #[.int .u8 u.kind, .string (S u.key), .string (S u.val), .int .u64 u.delta] 31) e1
      have e2 := cell_past (.cells #[.int .u8 u.kind, .string (S u.key), .string (S u.val), .int .u64 u.delta] 31) e2
      have e3 := cell_past (.cells #[.int .u8 u.kind, .string (S u.key), .string (S u.val), .int .u64 u.delta] 31) e3
      have r0 := cell_past (.cells #[.int .u8 u.kind, .string (S u.key), .string (S u.val), .int .u64 u.delta] 31) r0
      have r1 := cell_past (.cells #[.int .u8 u.kind, .string (S u.key), .string (S u.val), .int .u64 u.delta] 31) r1
      have r2 := cell_past (.cells #[.int .u8 u.kind, .string (S u.key), .string (S u.val), .int .u64 u.delta] 31) r2
      have r3 := cell_past (.cells #[.int .u8 u.kind, .string (S u.key), .string (S u.val), .int .u64 u.delta] 31) r3
      clear hk3 HG HV2 p1 p2 p3 t0 t1 t2 t3
      go_wp2_with fail
      go_quiet (fail)
      go_wp2_with fail
      go_roundw
      (case rel => exact (⟨j + 1, by go_num, by omega, below_drewN (hB3.alloc hs3 _) _⟩))
      (case measure => first | (simp [intOf]; done) | (simp [intOf]; omega))
    · obtain rfl : j = n := by omega
      go_wp2_with fail
      go_ret
      exact ⟨rfl, hB2.trans (hB.mono (by omega))⟩

end Go.Proofs.Ytcjeonamebnpfaa
