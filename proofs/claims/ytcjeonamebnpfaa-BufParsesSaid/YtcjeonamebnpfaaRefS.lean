/-
  The walk of the document's Split.
-/
import Derived.Test.YtcjeonamebnpfaaLend
namespace Go.Proofs.Ytcjeonamebnpfaa
open Go.RowKit

set_option maxRecDepth 100000 in
set_option maxHeartbeats 1000000 in
theorem refSplit_any (s : List UInt8) (hs : s.length ≤ 1000000) (w : World) : Calls Try.prog 56 #[.string (S s)] w fun e w' => e = .returned (splitV s) ∧ Below w.heap.size w w' := by
  cases s with
  | nil =>
    go_enter Try.func56, Try.ntmps56
    go_wp2_with fail
    go_ret3
    exact ⟨rfl, Below.refl _ _⟩
  | cons b r =>
    have hb : (b.toNat : Int) < 256 := by have := b.toNat_lt; omega
    have hl : (S (b :: r)).size = r.length + 1 := by rw [S_size]; rfl
    rw [List.length_cons] at hs
    by_cases h : r.length < b.toNat
    · have h' : (r.length : Int) + 1 < 1 + (b.toNat : Int) := by omega
      have hv : Hid (splitV (b :: r) = .tuple #[.string ByteArray.empty, .string ByteArray.empty, .bool false]) := Lib.hid (by simp only [splitV, splitL, if_pos h]; rfl)
      clear h
      go_enter Try.func56, Try.ntmps56
      go_wp2_with fail
      go_ret3
      exact ⟨ret_val (by rw [hv.out]; rfl), Below.refl _ _⟩
    · have h' : ¬ (r.length : Int) + 1 < 1 + (b.toNat : Int) := by omega
      have h2 : (b.toNat : Int) ≤ (r.length : Int) := by omega
      have hv : Hid (splitV (b :: r) = .tuple #[.string (S (r.take b.toNat)), .string (S (r.drop b.toNat)), .bool true]) := Lib.hid (by simp only [splitV, splitL, if_neg h])
      clear h
      go_enter Try.func56, Try.ntmps56
      go_wp2_with fail
      go_region
      go_wp2_with fail
      go_ret3
      refine ⟨ret_val ?_, by go_grown⟩
      rw [hv.out]
      show Value.tuple #[.string (S (List.take (1 + b.toNat - 1) r)), .string (S (List.take (r.length + 1 - (1 + b.toNat)) (List.drop (1 + b.toNat) (b :: r)))), .bool true] = _
      rw [Nat.add_sub_cancel_left, Nat.add_comm 1, List.drop_succ_cons, List.take_of_length_le (l := List.drop b.toNat r) (by rw [List.length_drop]; omega)]

end Go.Proofs.Ytcjeonamebnpfaa
