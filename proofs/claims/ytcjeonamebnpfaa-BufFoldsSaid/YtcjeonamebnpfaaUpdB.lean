/-
  Updates held against each other; a buffer's list, its length by name.
-/
import Derived.Test.YtcjeonamebnpfaaBoxU
import Derived.Test.YtcjeonamebnpfaaUse
namespace Go.Proofs.Ytcjeonamebnpfaa
open Go.RowKit

theorem BoxU.open {w : World} {v : Value} {l : List Upd} (h : BoxU w v l) : ∃ a c, v = .agg #[.slice a l.length c] ∧ BoxU w (.agg #[.slice a l.length c]) l := by
  obtain ⟨s, rfl, a, c, rfl, h1⟩ := h
  exact ⟨a, c, rfl, _, rfl, a, c, rfl, h1⟩
/-- List, its length by name. -/
theorem list_next (a : Option Addr) (n c : Nat) (A : List Upd) (w : World) (hn : n = A.length) (h : BoxU w (.agg #[.slice a n c]) A) (hl : A.length ≤ 1000000) :
    Calls Try.prog 13 #[.agg #[.slice a n c]] w fun e w' => (∃ a' c', e = .returned (.slice a' n c') ∧ w'.ownsRow w.heap.size 31 4 (.slice a' n c') n (cellsU A)) ∧ Below w.heap.size w w' := by
  subst hn
  refine (listU _ A w h hl).mono ?_
  rintro e w' ⟨⟨v', rfl, hown⟩, hb⟩
  obtain ⟨a', c', rfl⟩ := own_form hown
  exact ⟨⟨a', c', rfl, hown⟩, hb⟩
theorem upd_guard (op : BinOp) (x y : Operand) (xs ys : Array Value) (w : World) : (eqGuard op 31 x y (.agg xs) (.agg ys)).run Try.prog w = .ok () w := run_eqGuard_agg w op _ x y xs ys (by kernel_rfl)
theorem upd_under : Try.prog.underlying 31 = some (.struct (Try.prog.fieldsOf 31)) := by kernel_rfl
theorem upd_held : Try.prog.stoodInHeld 31 = false := by kernel_rfl
theorem upd_neq_same (k d : Int) (a b : ByteArray) (w : World) : (binOp .neq 31 (.agg #[.int .u8 k, .string a, .string b, .int .u64 d]) (.agg #[.int .u8 k, .string a, .string b, .int .u64 d])).run Try.prog w = .ok (.bool false) w := by
  rw [run_neq_struct, run_equalIn_agg _ _ _ _ _ upd_under upd_held]
  simp [Program.fieldsOf, Try.underlying31, Try.underlying29, Try.underlying9, Try.underlying26, Op.eqFields, go_sem]
/-- Two lists of the same updates, at one place of both. -/
theorem pair_at {w : World} {a a' : Option Addr} {n n' c c' : Nat} {A : List Upd} (h : SlU w (.slice a n c) A) (h' : SlU w (.slice a' n' c') A) (i : Nat) (hi : i < A.length) :
    ∃ b off b' off' u, A[i] = u ∧ a = some ⟨b, off, none⟩ ∧ a' = some ⟨b', off', none⟩ ∧ (w.cell? ⟨b, off + i * 4, none⟩ = some (.int .u8 u.kind) ∧ w.cell? ⟨b, off + i * 4 + 1, none⟩ = some (.string (S u.key)) ∧ w.cell? ⟨b, off + i * 4 + 2, none⟩ = some (.string (S u.val)) ∧ w.cell? ⟨b, off + i * 4 + 3, none⟩ = some (.int .u64 u.delta)) ∧
      (w.cell? ⟨b', off' + i * 4, none⟩ = some (.int .u8 u.kind) ∧ w.cell? ⟨b', off' + i * 4 + 1, none⟩ = some (.string (S u.key)) ∧ w.cell? ⟨b', off' + i * 4 + 2, none⟩ = some (.string (S u.val)) ∧ w.cell? ⟨b', off' + i * 4 + 3, none⟩ = some (.int .u64 u.delta)) := by
  obtain ⟨b, off, rfl, -, h1⟩ := h.cells4 i hi
  obtain ⟨b', off', rfl, -, h2⟩ := h'.cells4 i hi
  exact ⟨b, off, b', off', _, rfl, rfl, rfl, h1, h2⟩

end Go.Proofs.Ytcjeonamebnpfaa
