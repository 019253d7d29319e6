/-
  Small lemmas that every walk of this seat uses: contracts threaded through what has been kept since a call began; equal returns.
-/
import Derived.Test.YtcjeonamebnpfaaProg
import Derived.WalkKit
import Derived.WalkSpells
import Derived.WalkLawsBesides
import Derived.Handy
import Derived.Lib.Hide
namespace Go.Proofs.Ytcjeonamebnpfaa
open Go.RowKit

theorem ret_bool {a b : Bool} (h : a = b) : Ending.returned (.bool a) = .returned (.bool b) := by rw [h]
theorem ret_int {k : IntKind} {a b : Int} (h : a = b) : Ending.returned (.int k a) = .returned (.int k b) := by rw [h]
theorem ret_val {a b : Value} (h : a = b) : Ending.returned a = .returned b := by rw [h]

theorem beq_zero (m : Nat) : ((m : Int) == 0) = decide (m = 0) := by rw [Bool.eq_iff_iff]; simp

/-- What lies below the old size reads as it did. -/
theorem bcell {W w1 : World} (hb : Below W.heap.size W w1) : (∀ b o, b < W.heap.size → w1.cell? ⟨b, o, none⟩ = W.cell? ⟨b, o, none⟩) ∧ (∀ b o, b < W.heap.size → w1.frozen? ⟨b, o, none⟩ = W.frozen? ⟨b, o, none⟩) :=
  ⟨fun b o h => hb.cell (p := ⟨b, o, none⟩) h, fun b o h => hb.frozen (p := ⟨b, o, none⟩) h⟩

/-- A cell that is there is there behind a new block. -/
theorem cell_past {W : World} {a : Addr} {v : Value} (o : Obj) (h : W.cell? a = some v) : (W.alloc o).cell? a = some v := by
  have hlt : a.block < W.heap.size := World.block_lt_of_cell? W a h
  rw [← h]
  exact World.cell?_of_block (Below.heap_alloc W o a.block hlt)

/-- A contract that keeps what was there, carried on from a world further back. -/
theorem thread {P : Program} {f : FuncId} {args : Array Value} {w : World} {R : Ending → World → Prop}
    (hc : Calls P f args w (fun e w' => R e w' ∧ Below w.heap.size w w')) (B : Nat) (w0 : World) (h0 : Below B w0 w) (hB : B ≤ w.heap.size) :
    Calls P f args w (fun e w' => R e w' ∧ Below B w0 w' ∧ (∀ b o, b < w.heap.size → w'.cell? ⟨b, o, none⟩ = w.cell? ⟨b, o, none⟩) ∧ (∀ b o, b < w.heap.size → w'.frozen? ⟨b, o, none⟩ = w.frozen? ⟨b, o, none⟩) ∧ w.heap.size ≤ w'.heap.size ∧ B ≤ w'.heap.size) :=
  hc.mono fun _ _ ⟨hr, hb⟩ => ⟨hr, h0.trans (hb.mono hB), (bcell hb).1, (bcell hb).2, hb.size, Nat.le_trans hB hb.size⟩

/-- A contract that keeps what was there: the cells up to block M that are known, and what lies below since a world further back. -/
theorem carry {P : Program} {f : FuncId} {args : Array Value} {w : World} {R : Ending → World → Prop}
    (hc : Calls P f args w (fun e w' => R e w' ∧ Below w.heap.size w w')) (M B : Nat) (w0 : World) (hM : M < w.heap.size) (h0 : Below B w0 w) (hB : B ≤ M) :
    Calls P f args w (fun e w' => R e w' ∧ (∀ b o v, b ≤ M → w.cell? ⟨b, o, none⟩ = some v → w'.cell? ⟨b, o, none⟩ = some v) ∧ M < w'.heap.size ∧ Below B w0 w') :=
  hc.mono fun _ _ ⟨hr, hb⟩ => ⟨hr, fun b o v h1 h2 => (hb.cell (p := ⟨b, o, none⟩) (by show b < _; omega)).trans h2, Nat.lt_of_lt_of_le hM hb.size, h0.trans (hb.mono (by omega))⟩

end Go.Proofs.Ytcjeonamebnpfaa
