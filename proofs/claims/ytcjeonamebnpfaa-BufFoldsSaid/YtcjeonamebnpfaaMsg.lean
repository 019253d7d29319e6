/-
  The walks of layer 14 (msg): numbers as values, what an update makes of a value; the plain words for it.
-/
import Derived.Test.YtcjeonamebnpfaaLendR
import Derived.Test.YtcjeonamebnpfaaRecU
namespace Go.Proofs.Ytcjeonamebnpfaa
open Go.RowKit

/-- What an update makes of a value that is there, or isn't. -/
def onL (v : List UInt8) (there : Bool) (u : Upd) : List UInt8 × Bool :=
  if u.kind = 1 then (u.val, true)
  else if u.kind = 2 then ([], false)
  else if u.kind = 3 then
    if there = false then (le (u.delta % 18446744073709551616) 8, true)
    else if v.length = 8 then (le ((numL v + u.delta) % 18446744073709551616) 8, true) else (v, true)
  else (if there then v else [], there)
def onV (v : List UInt8) (there : Bool) (u : Upd) : Value := .tuple #[.string (S (onL v there u).1), .bool (onL v there u).2]
/-- The update that does what two do, one behind the other. -/
def joinL (f t : Upd) : Upd :=
  if t.kind ≠ 3 then t
  else if f.kind = 3 then { t with delta := (t.delta + f.delta) % 18446744073709551616 }
  else ⟨1, t.key, (onL (onL [] false f).1 (onL [] false f).2 t).1, 0⟩

theorem numL_64 {v : List UInt8} (h : v.length = 8) : numL v < 18446744073709551616 := by
  have := numL_lt v
  rw [h] at this
  exact this

set_option maxRecDepth 100000 in
set_option maxHeartbeats 1000000 in
theorem number_any (v : List UInt8) (hv : v.length ≤ 1000000) (w : World) :
    Calls Try.prog 53 #[.string (S v)] w fun e w' => e = .returned (.tuple #[.int .u64 (if v.length = 8 then numL v else 0 : Nat), .bool (decide (v.length = 8))]) ∧ Below w.heap.size w w' := by
  by_cases hlt : v.length < 8
  · have hd : decide (v.length = 8) = false := by simp; omega
    rw [if_neg (by omega), hd]
    clear hd
    have hI := intsW_new w #[.int .i64 8] 3 (0, 0) [(8, 0)] rfl
    have hr := read_short _ 1 [(8, 0)] v _ hI (wide1 8 0 (by omega) (by omega)) (by simp) (by simpa [sumW] using hlt)
    go_enter Try.func53, Try.ntmps53
    go_wp2_with (go_at_call 79; refine (hr).mono ?_; rintro e w' ⟨rfl, rfl⟩)
    go_ret2
    exact ⟨rfl, by go_grown⟩
  · obtain ⟨n, rest, h2, h3⟩ := as_num1 8 v (by omega)
    have hn : n < 256 ^ 8 := h2 (8, n) (by simp)
    have hn8 : n < 18446744073709551616 := hn
    have hlen : v.length = 8 + rest.length := by rw [h3, List.length_append, wtext_len]; rfl
    have hI := intsW_new w #[.int .i64 8] 3 (0, 0) [(8, n)] rfl
    have hr := read_ok _ 1 [(8, n)] rest _ hI (wide1 8 n (by omega) (by omega)) h2 (by simp) (by omega)
    rw [← h3] at hr
    by_cases h8 : v.length = 8
    · obtain rfl : rest = [] := List.eq_nil_of_length_eq_zero (by omega)
      have hnum : numL v = n := by
        rw [h3, List.append_nil]
        show numL (le n 8 ++ []) = n
        rw [List.append_nil, numL_le]
        exact Nat.mod_eq_of_lt hn
      rw [if_pos h8, decide_eq_true h8, hnum]
      clear hnum h8 hlen h3 h2
      go_enter Try.func53, Try.ntmps53
      go_wp2_with (go_at_call 79; refine (thread hr w.heap.size w (by go_grown) (by go_grown)).mono ?_; rintro e w1 ⟨⟨ao, c, rfl, hN⟩, hB, -, -, -, -⟩; obtain ⟨b, off, rfl, hb, hc⟩ := hN.at (by simp); have hc0 := hc 0 (by simp) 0 _ rfl; simp only [Nat.mul_one, Nat.add_zero, List.getElem_cons_zero] at hc0; clear hc hN)
      go_ret2
      exact ⟨rfl, hB⟩
    · have hne : 0 < rest.length := by omega
      rw [if_neg h8, decide_eq_false h8]
      have hre : (S rest).toList.isEmpty = false := by rw [S_toList]; cases rest <;> simp at hne ⊢
      have hre2 : rest.isEmpty = false := by rw [S_toList] at hre; exact hre
      clear h8 hlen h3 h2
      go_enter Try.func53, Try.ntmps53
      go_wp2_with (go_at_call 79; refine (thread hr w.heap.size w (by go_grown) (by go_grown)).mono ?_; rintro e w1 ⟨⟨ao, c, rfl, hN⟩, hB, -, -, -, -⟩)
      go_ret2
      exact ⟨rfl, hB⟩

set_option maxRecDepth 100000 in
set_option maxHeartbeats 400000 in
theorem value_any (n : Nat) (hn : n < 18446744073709551616) (w : World) :
    Calls Try.prog 49 #[.int .u64 n] w fun e w' => e = .returned (.string (S (le n 8))) ∧ Below w.heap.size w w' := by
  have hI := (intsW_new w #[.int .i64 8] 3 (0, 0) [(8, n)] rfl).kept ((Below.refl _ _).alloc (Nat.le_refl _) (.cells #[.int .u64 n] 26)) (Nat.le_refl _)
  have hN := numsW_new (w.alloc (.cells #[.int .i64 8] 3)) #[.int .u64 n] 26 (0, 0) [(8, n)] rfl
  have hr := write_fit _ _ 1 1 [(8, n)] _ hI hN (wide1 8 n (by omega) (by omega)) (by intro p hp; simp at hp; subst hp; exact hn) (by simp)
  have hw : Hid (wtext [(8, n)] = le n 8) := Lib.hid (by simp [wtext])
  rw [show (w.alloc (.cells #[.int .i64 8] 3)).heap.size = w.heap.size + 1 by simp] at hr
  go_enter Try.func49, Try.ntmps49
  go_wp2_with (go_at_call 74; refine (thread hr w.heap.size w (by go_grown) (by go_grown)).mono ?_; rintro e w1 ⟨rfl, hB, -, -, -, -⟩)
  go_ret
  exact ⟨ret_val (by rw [← hw.out]; rfl), hB⟩

end Go.Proofs.Ytcjeonamebnpfaa
