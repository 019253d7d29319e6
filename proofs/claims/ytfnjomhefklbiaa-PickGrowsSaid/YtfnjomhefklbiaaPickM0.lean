/-
  What the walks of PickMost and PickGrows share: the head of a slice of bytes; the counts that are gathered.
-/
import Derived.Test.YtfnjomhefklbiaaPickQ
import Derived.Test.YtfnjomhefklbiaaMapB
namespace Go.Proofs.Ytfnjomhefklbiaa
open Go.RowKit

theorem add_zero' (a : Addr) : a.add 0 = a := by simp [Addr.add]
theorem map_add_zero (ao : Option Addr) : ao.map (·.add 0) = ao := by cases ao <;> simp [add_zero']

/-- The head of a slice. -/
theorem cut_low {P : Program} {T e : TypeId} (hT : P.underlying T = some (.slice e)) (he : P.elem T = e) (s : Nat) (hs : ∀ w, (sizeOf e).run P w = .ok s w) (ao : Option Addr) (n c m : Nat) (hm : m ≤ c) (w : World) :
    (Instr.slice T (.slice ao n c) none (some (.int .i64 (m : Int))) none).run P w = .ok (.slice ao m c) w := by
  rw [run_slice_h w T ao n c (by rw [he]; exact hT) .i64 m (by omega) (by omega), he, hs]
  simp [Result.andThen, sliced, map_add_zero]
theorem cut_bytes (ao : Option Addr) (n c m : Nat) (hm : m ≤ c) (w : World) : (Instr.slice 51 (.slice ao n c) none (some (.int .i64 (m : Int))) none).run Try.prog w = .ok (.slice ao m c) w :=
  cut_low Try.underlying51 (by kernel_rfl) 1 (fun _ => by kernel_rfl) ao n c m hm w
theorem cut_ints (ao : Option Addr) (n c m : Nat) (hm : m ≤ c) (w : World) : (Instr.slice 27 (.slice ao n c) none (some (.int .i64 (m : Int))) none).run Try.prog w = .ok (.slice ao m c) w :=
  cut_low Try.underlying27 (by kernel_rfl) 1 (fun _ => by kernel_rfl) ao n c m hm w

theorem below_drewN {B : Nat} {a w : World} (h : Below B a w) (n : Nat) : Below B a (w.drewN n) := ⟨h.os, h.tape, h.output, h.size, h.block⟩

/-- The counts so far. -/
structure Counts (w0 : World) (C : List Int) (v : Value) (wr : World) : Prop where
  out : Out w0.heap.size v C wr
  below : Below w0.heap.size w0 wr
theorem Counts.start (w0 : World) : Counts w0 [] (.slice none 0 0) w0 := ⟨⟨World.ownsRow_nil _ _ _ _, rfl⟩, Below.refl _ _⟩
theorem Counts.more {w0 wr : World} {C : List Int} {v : Value} (h : Counts w0 C v wr) (x : Int) {o : Obj} {v' : Value} {w1 : World} (hown : w1.ownsRow w0.heap.size 3 1 v' (C.length + 1) (intsV C ++ [.int .i64 x])) (hgrow : (wr.alloc o).grownBy w1 v.ownBlock) :
    Counts w0 (C ++ [x]) v' w1 := by
  refine ⟨Out.of_own ?_, h.below.trans ⟨hgrow.os, hgrow.tape, hgrow.output, Nat.le_trans (by simp) hgrow.size, fun k hk => ?_⟩⟩
  · rw [intsV_snoc, List.length_append, List.length_singleton]; exact hown
  · have hs := h.below.size
    exact (hgrow.block k (by simp; omega) (fun e => by have := (h.out.own.lt k e.symm).1; omega)).trans (Below.heap_alloc _ _ _ (by omega))

end Go.Proofs.Ytfnjomhefklbiaa
