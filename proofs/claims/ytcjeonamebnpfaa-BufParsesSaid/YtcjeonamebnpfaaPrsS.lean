/-
  What a text with its length ahead leaves.
-/
import Derived.Test.YtcjeonamebnpfaaLend
namespace Go.Proofs.Ytcjeonamebnpfaa
open Go.RowKit

theorem splitL_len (s : List UInt8) : (splitL s).2.1.length ≤ s.length ∧ ((splitL s).2.2 = true → (splitL s).2.1.length < s.length) := by
  cases s with
  | nil => simp [splitL]
  | cons b r =>
    by_cases h : r.length < b.toNat
    · simp [splitL, h]
    · simp [splitL, h]; omega
theorem splitL_fst (s : List UInt8) : (splitL s).1.length ≤ s.length := by
  cases s with
  | nil => simp [splitL]
  | cons b r =>
    by_cases h : r.length < b.toNat
    · simp [splitL, h]
    · simp [splitL, h]; omega

end Go.Proofs.Ytcjeonamebnpfaa
