/-
  The walks of the document's layer 1: a number in a width.
-/
import Derived.Test.YtcjeonamebnpfaaStr
namespace Go.Proofs.Ytcjeonamebnpfaa
open Go.RowKit

set_option maxHeartbeats 400000 in
theorem put_any (n : Nat) (hn : n < 18446744073709551616) (k : Nat) (h1 : 1 ≤ k) (h8 : k ≤ 8) (w : World) :
    Calls Try.prog 66 #[.int .u64 n, .int .i64 k] w fun e w' => e = .returned (.tuple #[.string (S (le n k)), .bool (decide (n / 256 ^ k = 0))]) ∧ Below w.heap.size w w' := by
  have hcv := fun w n c => run_str1 (P := Try.prog) 47 9 5 Try.underlying47 Try.underlying5 Try.underlying9 w n c
  go_enter Try.func66, Try.ntmps66
  go_wp2
  go_loopw [0, 6, 7] (fun x s i wr => ∃ j : Nat, j ≤ k ∧ x = .int .u64 (n / 256 ^ j : Nat) ∧ s = .string (S (le n j)) ∧ i = .int .i64 j ∧ Below w.heap.size w wr) (fun _ _ i _ => k - (intOf i).toNat)
  case atStart => exact ⟨0, Nat.zero_le _, by simp, rfl, rfl, by go_grown⟩
  case round =>
    obtain ⟨j, hj, rfl, rfl, rfl, hB⟩ := hrel
    have hz := hB.size
    have hd : n / 256 ^ j < 18446744073709551616 := Nat.lt_of_le_of_lt (Nat.div_le_self _ _) hn
    generalize hm : n / 256 ^ j = m at hd ⊢
    have Hm := Lib.hid hm
    clear hm hn
    have hl : (le n j).length = j := le_length n j
    go_wp2
    · go_roundw
      case rel => exact ⟨j + 1, by omega, by rw [div_pow_succ, Hm.out]; simp, by rw [le_succ, Hm.out], by go_num, by go_grown⟩
      case measure => simp [intOf]; omega
    · obtain rfl : j = k := by omega
      go_ret2
      exact ⟨ret_val (by rw [Hm.out, ← beq_zero]; rfl), by go_grown⟩

end Go.Proofs.Ytcjeonamebnpfaa
