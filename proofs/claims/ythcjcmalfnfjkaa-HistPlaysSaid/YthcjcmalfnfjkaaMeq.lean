/-
  The walks of slices.Equal at entries, and of the statements' same.
-/
import Derived.Test.YthcjcmalfnfjkaaMod
namespace Go.Proofs.Ythcjcmalfnfjkaa
open Go.RowKit Go.Maps Go.WideShapes Go.Shelf
set_option linter.unusedVariables false

theorem Ent_ext {a b : Ent} (h : a.key = b.key ∧ a.val = b.val) : a = b := by
  obtain ⟨ak, av⟩ := a
  obtain ⟨bk, bv⟩ := b
  obtain ⟨rfl, rfl⟩ := h
  rfl
instance : DecidableEq Ent := fun a b => if h : a.key = b.key ∧ a.val = b.val then isTrue (Ent_ext h) else isFalse (fun e => h (by rw [e]; exact ⟨rfl, rfl⟩))
theorem S_iff (a b : List UInt8) : S a = S b ↔ a = b := by simp [S]
theorem entL_under : Try.prog.underlying 55 = some (.struct (Try.prog.fieldsOf 55)) := by kernel_rfl
theorem entL_held : Try.prog.stoodInHeld 55 = false := by kernel_rfl
theorem entL_guard (op : BinOp) (x y : Operand) (xs ys : Array Value) (w : World) : (eqGuard op 55 x y (.agg xs) (.agg ys)).run Try.prog w = .ok () w := run_eqGuard_agg w op _ x y xs ys (by kernel_rfl)
theorem entL_neq (a b : Ent) (w : World) : (binOp .neq 55 (.agg #[.string (S a.key), .string (S a.val)]) (.agg #[.string (S b.key), .string (S b.val)])).run Try.prog w = .ok (.bool (decide (a ≠ b))) w := by
  rw [run_neq_struct, run_equalIn_agg _ _ _ _ _ entL_under entL_held]
  obtain ⟨ak, av⟩ := a
  obtain ⟨bk, bv⟩ := b
  by_cases h1 : ak = bk
  · by_cases h2 : av = bv
    · subst h1; subst h2
      simp [Program.fieldsOf, Try.underlying55, Try.underlying9, Op.eqFields, go_sem]
    · subst h1
      simp [Program.fieldsOf, Try.underlying55, Try.underlying9, Op.eqFields, go_sem, h2]
  · simp [Program.fieldsOf, Try.underlying55, Try.underlying9, Op.eqFields, go_sem, h1]
theorem entR_under : Try.prog.underlying 68 = some (.struct (Try.prog.fieldsOf 68)) := by kernel_rfl
theorem entR_held : Try.prog.stoodInHeld 68 = false := by kernel_rfl
theorem entR_guard (op : BinOp) (x y : Operand) (xs ys : Array Value) (w : World) : (eqGuard op 68 x y (.agg xs) (.agg ys)).run Try.prog w = .ok () w := run_eqGuard_agg w op _ x y xs ys (by kernel_rfl)
theorem entR_neq (a b : Ent) (w : World) : (binOp .neq 68 (.agg #[.string (S a.key), .string (S a.val)]) (.agg #[.string (S b.key), .string (S b.val)])).run Try.prog w = .ok (.bool (decide (a ≠ b))) w := by
  rw [run_neq_struct, run_equalIn_agg _ _ _ _ _ entR_under entR_held]
  obtain ⟨ak, av⟩ := a
  obtain ⟨bk, bv⟩ := b
  by_cases h1 : ak = bk
  · by_cases h2 : av = bv
    · subst h1; subst h2
      simp [Program.fieldsOf, Try.underlying68, Try.underlying9, Op.eqFields, go_sem]
    · subst h1
      simp [Program.fieldsOf, Try.underlying68, Try.underlying9, Op.eqFields, go_sem, h2]
  · simp [Program.fieldsOf, Try.underlying68, Try.underlying9, Op.eqFields, go_sem, h1]
theorem take_ne {a b : List Ent} (hl : a.length = b.length) (j : Nat) (hj : j < a.length) (h : a.take j = b.take j) : (a = b ↔ a.drop j = b.drop j) := by
  constructor
  · rintro rfl; rfl
  · intro h2
    rw [← List.take_append_drop j a, ← List.take_append_drop j b, h, h2]

set_option maxRecDepth 100000 in
set_option maxHeartbeats 4000000 in
theorem eqE_any (a1 : Option Addr) (c1 : Nat) (a2 : Option Addr) (c2 : Nat) (x y : List Ent) (w : World) (hx : SlAt Ent.cells 2 w a1 x) (hy : SlAt Ent.cells 2 w a2 y) (hlx : x.length ≤ 1000000) (hly : y.length ≤ 1000000) :
    Calls Try.prog 39 #[.slice a1 x.length c1, .slice a2 y.length c2] w fun e w' => e = .returned (.bool (decide (x = y))) ∧ Below w.heap.size w w' := by
  have hund := entL_guard
  have hneq := entL_neq
  by_cases hlen : x.length = y.length
  · have hlen' : (x.length : Int) = (y.length : Int) := by omega
    go_enter Try.func39, Try.ntmps39
    go_wp2_with fail
    go_loopw [13] (fun i wr => ∃ j : Nat, i = .int .i64 j ∧ j ≤ x.length ∧ Hid (x.take j = y.take j) ∧ Below w.heap.size w wr) (fun i _ => x.length - (intOf i).toNat)
    case atStart => exact ⟨0, rfl, Nat.zero_le _, Lib.hid (by simp), Below.refl _ _⟩
    case round =>
      obtain ⟨j, rfl, hj, HT, hB⟩ := hrel
      have hj0 : (0 : Int) ≤ (j : Int) := Int.natCast_nonneg _
      by_cases hjl : j < x.length
      · have hj1 : (j : Int) < (x.length : Int) := by omega
        have hjy : j < y.length := by omega
        have hj2 : (j : Int) < (y.length : Int) := by omega
        obtain ⟨b, off, rfl, hb, t0, t1⟩ := SlAt.cells2 hx j hjl
        obtain ⟨b', off', rfl, hb', s0, s1⟩ := SlAt.cells2 hy j hjy
        have q0 := cell_drew ((cell_below hB hb _).trans t0)
        have q1 := cell_drew ((cell_below hB hb _).trans t1)
        have p0 := cell_drew ((cell_below hB hb' _).trans s0)
        have p1 := cell_drew ((cell_below hB hb' _).trans s1)
        have HA := Lib.hid (show x.take (j + 1) = x.take j ++ [x[j]] from List.take_succ_eq_append_getElem hjl)
        have HB := Lib.hid (show y.take (j + 1) = y.take j ++ [y[j]] from List.take_succ_eq_append_getElem hjy)
        have HC := Lib.hid (show x[j] ≠ y[j] → x ≠ y from fun hne e => hne (by subst e; rfl))
        clear t0 t1 s0 s1
        generalize x[j] = u at *
        generalize y[j] = v at *
        have hnq := fun W => hneq u v W
        by_cases huv : u = v
        · have hd : decide (u ≠ v) = false := by simp [huv]
          rw [hd] at hnq
          subst huv
          go_wp2_with fail
          go_region
          go_wp2_with fail
          exact ⟨⟨j + 1, by go_num, by omega, Lib.hid (by rw [HA.out, HB.out, HT.out]), by go_grown⟩, by simp [intOf]; omega⟩
        · have hd : decide (u ≠ v) = true := by simp [huv]
          rw [hd] at hnq
          have hne := HC.out huv
          go_wp2_with fail
          go_region
          go_wp2_with fail
          go_ret
          exact ⟨by simp [hne], by go_grown⟩
      · obtain rfl : j = x.length := by omega
        have he : x = y := by have := HT.out; rw [List.take_length] at this; rw [this]; rw [hlen, List.take_length]
        go_wp2_with fail
        go_ret
        exact ⟨by simp [he], by go_grown⟩
  · have hlen' : ¬ (x.length : Int) = (y.length : Int) := by omega
    have hne : x ≠ y := fun e => hlen (by rw [e])
    go_enter Try.func39, Try.ntmps39
    go_wp2_with fail
    go_ret
    exact ⟨by simp [hne], by go_grown⟩

end Go.Proofs.Ythcjcmalfnfjkaa
