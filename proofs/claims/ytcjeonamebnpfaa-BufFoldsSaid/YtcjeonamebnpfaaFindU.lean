/-
  The walks of the look for a key among updates: the comparison, the binary search.
-/
import Derived.Test.YtcjeonamebnpfaaCmp
import Derived.Lib.Walk
namespace Go.Proofs.Ytcjeonamebnpfaa
open Go.RowKit

set_option maxHeartbeats 400000 in
theorem find1U (u : Upd) (k : List UInt8) (w : World) :
    Calls Try.prog 70 #[.agg #[.int .u8 u.kind, .string (S u.key), .string (S u.val), .int .u64 u.delta], .string (S k)] w fun e w' => e = .returned (.int .i64 (cmpZ u.key k)) ∧ Below w.heap.size w w' := by
  go_enter Try.func70, Try.ntmps70
  go_wp2_with (go_at_call 71; refine (compare_any _ _ _).mono ?_; rintro e w' ⟨rfl, rfl⟩)
  go_ret
  exact ⟨rfl, by go_grown⟩

set_option maxRecDepth 100000 in
set_option maxHeartbeats 2000000 in
theorem searchU (ao : Option Addr) (c : Nat) (l : List Upd) (k : List UInt8) (w : World) (hs : SlAt Upd.cells 4 w ao l) (hl : l.length ≤ 1000000) (hr : Rising Upd.key l) :
    Calls Try.prog 69 #[.slice ao l.length c, .string (S k), .func (.func 70) #[] #[]] w fun e w' => e = .returned (.tuple #[.int .i64 (below Upd.key l k : Nat), .bool (hasKey Upd.key l k)]) ∧ Below w.heap.size w w' := by
  have hbl := below_le (key := Upd.key) l k
  go_enter Try.func69, Try.ntmps69
  go_wp2_with fail
  go_loopw [9, 10] (fun i j wr => ∃ a b : Nat, i = .int .i64 a ∧ j = .int .i64 b ∧ a ≤ below Upd.key l k ∧ below Upd.key l k ≤ b ∧ b ≤ l.length ∧ Below w.heap.size w wr) (fun i j _ => (intOf j).toNat - (intOf i).toNat)
  case atStart => exact ⟨0, l.length, rfl, rfl, Nat.zero_le _, hbl, Nat.le_refl _, Below.refl _ _⟩
  case round =>
    obtain ⟨a, b, rfl, rfl, ha, hb, hbn, hB⟩ := hrel
    have hB0 := hB.size
    by_cases hab : a < b
    · have hab' : (a : Int) < (b : Int) := by omega
      have hh : (a + b) / 2 < l.length := by omega
      obtain ⟨bk, off, rfl, hbk, hcs⟩ := (hs.kept hB (Nat.le_refl _)).at (by omega)
      obtain ⟨c0, c1, c2, c3⟩ := updCells hcs ((a + b) / 2) hh
      have hR := hr.below k ((a + b) / 2) hh
      clear hcs
      generalize l[(a + b) / 2] = u at *
      have hi0 : (0 : Int) ≤ ((a : Int) + (b : Int)) / 2 := by omega
      have hi1 : ((a : Int) + (b : Int)) / 2 < (l.length : Int) := by omega
      cases hq : bl u.key k with
      | true =>
        have hz := cmpZ_lt hq
        have hlt : (a + b) / 2 < below Upd.key l k := hR.1 hq
        clear hR hq
        go_wp2_with (go_at_call 70; refine (thread (find1U u k _) w.heap.size w (by go_grown) (by go_grown)).mono ?_; rw [hz]; rintro e w1 ⟨rfl, hB1, -, -, hs1, hz1⟩)
        go_roundw
        case rel => exact ⟨(a + b) / 2 + 1, b, by go_num, rfl, by omega, hb, hbn, hB1⟩
        case measure => simp [intOf]; omega
      | false =>
        have hz := cmpZ_ge hq
        have hge : below Upd.key l k ≤ (a + b) / 2 := by
          have := mt hR.2 (by rw [hq]; simp)
          omega
        clear hR hq
        have hzz : ∃ z, Hid (cmpZ u.key k = z) ∧ ¬ z < 0 := ⟨_, Lib.hid rfl, by omega⟩
        obtain ⟨z, hzz, hz0⟩ := hzz
        clear hz
        go_wp2_with (go_at_call 70; refine (thread (find1U u k _) w.heap.size w (by go_grown) (by go_grown)).mono ?_; rw [hzz.out]; rintro e w1 ⟨rfl, hB1, -, -, hs1, hz1⟩)
        go_roundw
        case rel => exact ⟨a, (a + b) / 2, rfl, by go_num, ha, hge, by omega, hB1⟩
        case measure => simp [intOf]; omega
    · have hab' : ¬ (a : Int) < (b : Int) := by omega
      obtain rfl : a = below Upd.key l k := by omega
      have hf := hr.found k
      by_cases hin : below Upd.key l k < l.length
      · obtain ⟨bk, off, rfl, hbk, hcs⟩ := (hs.kept hB (Nat.le_refl _)).at (by omega)
        obtain ⟨c0, c1, c2, c3⟩ := updCells hcs _ hin
        clear hcs hr hs
        have hin' : ((below Upd.key l k : Nat) : Int) < (l.length : Int) := by omega
        have hin0 : (0 : Int) ≤ ((below Upd.key l k : Nat) : Int) := by omega
        generalize hu : l[below Upd.key l k] = u at *
        by_cases he : u.key = k
        · have hk : Hid (hasKey Upd.key l k = true) := Lib.hid (hf.2 ⟨hin, by rw [hu]; exact he⟩)
          have hz := cmpZ_zero.2 he
          clear hf hu he
          generalize hidx : below Upd.key l k = i at *
          have hidx' := Lib.hid hidx
          clear hidx
          go_wp2_with (go_at_call 70; refine (thread (find1U u k _) w.heap.size w (by go_grown) (by go_grown)).mono ?_; rw [hz]; rintro e w1 ⟨rfl, hB1, -, -, hs1, hz1⟩)
          go_ret2
          exact ⟨ret_val (by rw [hidx'.out, hk.out]; rfl), hB1⟩
        · have hk : Hid (hasKey Upd.key l k = false) := Lib.hid (by
            rw [← Bool.not_eq_true, hf]
            rintro ⟨h1, h2⟩
            exact he (by rw [← hu]; exact h2))
          have hz : (cmpZ u.key k == 0) = false := by rw [beq_eq_false_iff_ne]; exact mt cmpZ_zero.1 he
          clear hf hu he
          generalize hidx : below Upd.key l k = i at *
          have hidx' := Lib.hid hidx
          clear hidx
          go_wp2_with (go_at_call 70; refine (thread (find1U u k _) w.heap.size w (by go_grown) (by go_grown)).mono ?_; rintro e w1 ⟨rfl, hB1, -, -, hs1, hz1⟩)
          go_ret2
          exact ⟨ret_val (by rw [hidx'.out, hk.out]; rfl), hB1⟩
      · have hk : Hid (hasKey Upd.key l k = false) := Lib.hid (by
          rw [← Bool.not_eq_true, hf]
          rintro ⟨h1, h2⟩
          exact hin h1)
        have hin' : ¬ ((below Upd.key l k : Nat) : Int) < (l.length : Int) := by omega
        clear hf hr hs
        generalize hidx : below Upd.key l k = i at *
        have hidx' := Lib.hid hidx
        clear hidx
        go_wp2_with fail
        go_ret2
        exact ⟨ret_val (by rw [hidx'.out, hk.out]; rfl), hB⟩

end Go.Proofs.Ytcjeonamebnpfaa
