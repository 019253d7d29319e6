/-
  The walk of cmp.Compare at texts.
-/
import Derived.Test.YtcjeonamebnpfaaOrd
import Derived.Test.YtcjeonamebnpfaaRecU
import Derived.Test.YtcjeonamebnpfaaEnt
import Derived.Outline
namespace Go.Proofs.Ytcjeonamebnpfaa
open Go.RowKit

/-- -1, 0 or 1: as one text is ahead of, like, or behind another one. -/
def cmpZ (a b : List UInt8) : Int := if bl a b = true then -1 else if a = b then 0 else 1
theorem cmpZ_lt {a b : List UInt8} (h : bl a b = true) : cmpZ a b = -1 := by rw [cmpZ, if_pos h]
theorem cmpZ_eq (a : List UInt8) : cmpZ a a = 0 := by rw [cmpZ, bl_irrefl]; simp
theorem cmpZ_gt {a b : List UInt8} (h : bl b a = true) : cmpZ a b = 1 := by
  rw [cmpZ, bl_asymm h, if_neg (by simp), if_neg (fun e => bl_ne h e.symm)]
theorem cmpZ_ge {a b : List UInt8} (h : bl a b = false) : 0 ≤ cmpZ a b := by
  rw [cmpZ, h]; simp; split <;> omega
theorem cmpZ_range (a b : List UInt8) : -1 ≤ cmpZ a b ∧ cmpZ a b ≤ 1 := by unfold cmpZ; repeat' split
                                                                           all_goals omega
theorem cmpZ_zero {a b : List UInt8} : cmpZ a b = 0 ↔ a = b := by
  unfold cmpZ
  split
  · rename_i h
    simp
    exact bl_ne h
  · split <;> simp_all

set_option maxHeartbeats 400000 in
theorem isNaN_any (a : List UInt8) (w : World) : Calls Try.prog 86 #[.string (S a)] w fun e w' => e = .returned (.bool false) ∧ w = w' := by
  go_enter Try.func86, Try.ntmps86
  go_wp2
  go_ret
  exact ⟨rfl, rfl⟩

set_option maxHeartbeats 400000 in
theorem compare_any (a b : List UInt8) (w : World) : Calls Try.prog 71 #[.string (S a), .string (S b)] w fun e w' => e = .returned (.int .i64 (cmpZ a b)) ∧ w = w' := by
  rcases bl_tri a b with rfl | h | h
  · have h1 := bl_irrefl a
    have hz := Lib.hid (cmpZ_eq a)
    go_enter Try.func71, Try.ntmps71
    go_wp2_with (go_at_call 86; refine (isNaN_any _ _).mono ?_; rintro e w' ⟨rfl, rfl⟩)
    go_ret
    exact ⟨ret_int hz.out.symm, rfl⟩
  · have hz := Lib.hid (cmpZ_lt h)
    go_enter Try.func71, Try.ntmps71
    go_wp2_with (go_at_call 86; refine (isNaN_any _ _).mono ?_; rintro e w' ⟨rfl, rfl⟩)
    go_ret
    exact ⟨ret_int hz.out.symm, rfl⟩
  · have h1 := bl_asymm h
    have h2 : (a == b) = false := by simpa using fun e => bl_ne h e.symm
    have hz := Lib.hid (cmpZ_gt h)
    go_enter Try.func71, Try.ntmps71
    go_wp2_with (go_at_call 86; refine (isNaN_any _ _).mono ?_; rintro e w' ⟨rfl, rfl⟩)
    go_ret
    exact ⟨ret_int hz.out.symm, rfl⟩

end Go.Proofs.Ytcjeonamebnpfaa
