/-
  Further plain laws of a cursor, and small laws of the walk.
-/
import Derived.Test.YthcjcmalfnfjkaaSkw
namespace Go.Proofs.Ythcjcmalfnfjkaa
open Go.RowKit
set_option linter.unusedVariables false

def maxS (a b : List UInt8) : List UInt8 := if bl a b = true then b else a
theorem run_maxS {P : Program} (ts : Array TypeId) (t : TypeId) (a b : List UInt8) (w : World) : (Builtin.max_ ts t #[.string (S a), .string (S b)]).run P w = .ok (.string (S (maxS a b))) w := by
  unfold maxS
  cases h : bl a b with
  | true => have h' : Op.bytesLess a b = true := h; simp [Builtin.max_, Builtin.max2, Op.stringOp, h', asBool, S_toList]
  | false => have h' : Op.bytesLess a b = false := h; simp [Builtin.max_, Builtin.max2, Op.stringOp, h', asBool, S_toList]
theorem under_B : Try.prog.underlying 61 = some (.slice (Try.prog.elem 61)) := by rw [show Try.prog.elem 61 = 5 by kernel_rfl]; exact Try.underlying61
theorem sizeElemB (w : World) : (sizeOf (Try.prog.elem 61)).run Try.prog w = .ok 1 w := by kernel_rfl
theorem cut_u8 (ao : Option Addr) (n c i : Nat) (hin : i ≤ n) (hnc : n ≤ c) (w : World) : (Instr.slice 61 (.slice ao n c) none (some (.int .i64 (i : Int))) none).run Try.prog w = .ok (.slice ao i c) w := by
  rw [run_slice_h w 61 ao n c under_B .i64 i (by omega) (by omega)]
  rw [sizeElemB]
  have e : ao.map (·.add 0) = ao := by cases ao <;> simp [Addr.add]
  simp [Result.andThen, sliced, e]
theorem ent_guard (op : BinOp) (x y : Operand) (xs ys : Array Value) (w : World) : (eqGuard op 55 x y (.agg xs) (.agg ys)).run Try.prog w = .ok () w := run_eqGuard_agg w op _ x y xs ys (by kernel_rfl)
theorem ent_under : Try.prog.underlying 55 = some (.struct (Try.prog.fieldsOf 55)) := by kernel_rfl
theorem ent_held : Try.prog.stoodInHeld 55 = false := by kernel_rfl
theorem ent_neq_same (a b : ByteArray) (w : World) : (binOp .neq 55 (.agg #[.string a, .string b]) (.agg #[.string a, .string b])).run Try.prog w = .ok (.bool false) w := by
  rw [run_neq_struct, run_equalIn_agg _ _ _ _ _ ent_under ent_held]
  simp [Program.fieldsOf, Try.underlying55, Try.underlying9, Op.eqFields, go_sem]

theorem next_place {L : List Ent} {fail : Int} {A : List Int} {C : CurS} (h : CurOk L C) : (nextS L fail A C).2.2.2.place = (match (nextS L fail A C).1 with | some x => x.key ++ [0] | none => C.place) := by
  obtain ⟨h1, -⟩ := fill_spec (fail := fail) (A := A) h
  unfold nextS
  dsimp only
  split
  · unfold popS
    cases (fillS L fail A C).2.2.left with
    | nil => exact h1
    | cons x t => rfl
  · exact h1
theorem skip_ok {L : List Ent} {C : CurS} (h : CurOk L C) (k : List UInt8) : CurOk L (skipS C k) ∧ (skipS C k).high = C.high ∧ (skipS C k).place = maxS C.place k := by
  unfold skipS maxS
  split
  · exact ⟨⟨h.rise, rfl, fun e => by simp at e, h.chunk⟩, rfl, rfl⟩
  · exact ⟨h, rfl, rfl⟩
/-- Where the first one that is left lies. -/
theorem head_at : ∀ (L : List Ent) (lo : List UInt8) (x : Ent) (t : List Ent), L.filter (withinE lo []) = x :: t → ∃ i, ∃ hi : i < L.length, L[i] = x ∧ bl x.key lo = false ∧ ∀ j (hj : j < i), bl (L[j]'(by omega)).key lo = true
  | [], _, _, _, h => by simp at h
  | y :: L, lo, x, t, h => by
    by_cases hw : withinE lo [] y = true
    · rw [List.filter_cons_of_pos hw] at h
      injection h with e1 _
      subst e1
      exact ⟨0, by simp, rfl, by unfold withinE at hw; simp at hw; exact hw, fun j hj => by omega⟩
    · rw [List.filter_cons_of_neg hw] at h
      obtain ⟨i, hi, h1, h2, h3⟩ := head_at L lo x t h
      refine ⟨i + 1, by simp; omega, h1, h2, fun j hj => ?_⟩
      cases j with
      | zero =>
        show bl y.key lo = true
        unfold withinE at hw
        simpa using hw
      | succ j => exact h3 j (by omega)
theorem none_at (L : List Ent) (lo : List UInt8) (h : L.filter (withinE lo []) = []) : ∀ y ∈ L, bl y.key lo = true := fun y hy => by
  have := List.filter_eq_nil_iff.1 h y hy
  unfold withinE at this
  simpa using this

end Go.Proofs.Ythcjcmalfnfjkaa
