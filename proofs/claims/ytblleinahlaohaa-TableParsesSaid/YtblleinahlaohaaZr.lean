/-
  The walks of the document's layer 1: a number in a width.
  The walks of the document's Get of a number, and of its On of a value.
-/
import Derived.Test.YtblleinahlaohaaZa
import Derived.BigQuiet
import Derived.Deep.DrawnRows
namespace Go.Proofs.Ytblleinahlaohaa
open Go.RowKit

set_option maxHeartbeats 400000 in
theorem put_any (n : Nat) (hn : n < 18446744073709551616) (k : Nat) (h1 : 1 ≤ k) (h8 : k ≤ 8) (w : World) :
    Calls Try.prog 38 #[.int .u64 n, .int .i64 k] w fun e w' => e = .returned (.tuple #[.string (S (le n k)), .bool (decide (n / 256 ^ k = 0))]) ∧ Below w.heap.size w w' := by
  have hcv := fun w n c => run_str1 (P := Try.prog) 22 9 5 Try.underlying22 Try.underlying5 Try.underlying9 w n c
  go_enter Try.func38, Try.ntmps38
  go_wp2
  go_loopw [0, 6, 7] (fun x s i wr => ∃ j : Nat, j ≤ k ∧ x = .int .u64 (n / 256 ^ j : Nat) ∧ s = .string (S (le n j)) ∧ i = .int .i64 j ∧ Below w.heap.size w wr) (fun _ _ i _ => k - (intOf i).toNat)
  case atStart => exact ⟨0, Nat.zero_le _, by simp, rfl, rfl, by go_grown⟩
  case round =>
    obtain ⟨j, hj, rfl, rfl, rfl, hB⟩ := hrel
    have hz := hB.size
    have hd : n / 256 ^ j < 18446744073709551616 := Nat.lt_of_le_of_lt (Nat.div_le_self _ _) hn
    generalize hm : n / 256 ^ j = m at hd ⊢
    have Hm := Lib.hid hm
    clear hm hn
    have hl : (le n j).length = j := le_length n j
    go_wp2
    · go_roundw
      case rel => exact ⟨j + 1, by omega, by rw [div_pow_succ, Hm.out]; simp, by rw [le_succ, Hm.out], by go_num, by go_grown⟩
      case measure => simp [intOf]; omega
    · obtain rfl : j = k := by omega
      go_ret2
      exact ⟨ret_val (by rw [Hm.out, ← beq_zero]; rfl), by go_grown⟩

end Go.Proofs.Ytblleinahlaohaa

namespace Go.Proofs.Ytblleinahlaohaa
open Go.RowKit

set_option maxHeartbeats 1000000 in
theorem refGet_any (v : List UInt8) (hv : v.length ≤ 8) (w : World) :
    Calls Try.prog 31 #[.string (S v)] w fun e w' => e = .returned (.int .u64 (numL v : Nat)) ∧ Below w.heap.size w w' := by
  have hw0 : IntKind.i64.wrap ((v.length : Int) - 1) = (v.length : Int) - 1 := IntWalk.i64_in _ (by omega)
  go_enter Try.func31, Try.ntmps31
  go_wp2_with fail
  go_loopw [3, 4] (fun n i wr => ∃ j : Nat, j ≤ v.length ∧ i = .int .i64 ((j : Int) - 1) ∧ n = .int .u64 (numL (v.drop j) : Nat) ∧ Below w.heap.size w wr) (fun _ i _ => (intOf i + 1).toNat)
  case atStart => exact ⟨v.length, Nat.le_refl _, rfl, by rw [List.drop_length]; rfl, Below.refl _ _⟩
  case round =>
    obtain ⟨j, hj, rfl, rfl, hB⟩ := hrel
    rcases j with _ | q
    · rw [show ((0 : Nat) : Int) - 1 = -1 from rfl]
      go_wp2_with fail
      go_ret
      exact ⟨rfl, hB⟩
    · rw [show ((q + 1 : Nat) : Int) - 1 = (q : Int) by omega]
      have hq : q < v.length := by omega
      have hq0 : (0 : Int) ≤ (q : Int) := by omega
      have hq1 : (q : Int) < (v.length : Int) := by omega
      have hqw : IntKind.i64.wrap ((q : Int) - 1) = (q : Int) - 1 := IntWalk.i64_in _ (by omega)
      have hd : numL (v.drop q) = v[q].toNat + 256 * numL (v.drop (q + 1)) := by rw [List.drop_eq_getElem_cons hq]; rfl
      have hb : numL (v.drop q) < 18446744073709551616 := by
        have h1 := numL_lt (v.drop q)
        rw [List.length_drop] at h1
        have h2 : 256 ^ (v.length - q) ≤ 256 ^ 8 := Nat.pow_le_pow_right (by decide) (by omega)
        have h3 : (256 : Nat) ^ 8 = 18446744073709551616 := by decide
        omega
      have Hd := Lib.hid hd
      have Hb := Lib.hid hb
      clear hd hb
      go_wp2_with fail
      refine ⟨⟨q, by omega, rfl, ?_, hB⟩, by simp [intOf]⟩
      rw [Hd.out]
      have h1 := Hd.out
      have h2 := Hb.out
      generalize numL (v.drop (q + 1)) = N at *
      generalize v[q].toNat = b at *
      congr 1
      simp only [IntKind.wrap_u64]
      omega
end Go.Proofs.Ytblleinahlaohaa
