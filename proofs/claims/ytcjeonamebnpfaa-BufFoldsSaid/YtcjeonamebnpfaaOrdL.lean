/-
  What the walk of BufOrder speaks of: the first updates of each key, and a set of keys.
-/
import Derived.Test.YtcjeonamebnpfaaTame
import Derived.Test.YtcjeonamebnpfaaMapB
import Derived.Test.YtcjeonamebnpfaaConc
import Derived.Test.YtcjeonamebnpfaaKeyS
import Derived.Test.YtcjeonamebnpfaaBufG
namespace Go.Proofs.Ytcjeonamebnpfaa
open Go.RowKit

/-- The first of each key, tamed. -/
def firstStep (acc : List Upd) (u : Upd) : List Upd := if (tameL u).key ∈ acc.map Upd.key then acc else acc ++ [tameL u]
def firsts (l : List Upd) : List Upd := l.foldl firstStep []
theorem firsts_snoc (l : List Upd) (k : Nat) (hk : k < l.length) : firsts (l.take (k + 1)) = firstStep (firsts (l.take k)) l[k] := by
  unfold firsts
  rw [List.take_succ_eq_append_getElem hk, List.foldl_append]
  rfl
theorem firsts_len (l : List Upd) : (firsts l).length ≤ l.length := by
  suffices h : ∀ (l acc : List Upd), (l.foldl firstStep acc).length ≤ acc.length + l.length by simpa [firsts] using h l []
  intro l
  induction l with
  | nil => intro acc; simp
  | cons u r ih =>
    intro acc
    have := ih (firstStep acc u)
    have h2 : (firstStep acc u).length ≤ acc.length + 1 := by unfold firstStep; split <;> simp
    simp only [List.foldl_cons, List.length_cons]
    omega

/-- The walk's list and set, and the two keys in their box. -/
structure AllAt (w0 : World) (s0 s1 : List UInt8) (l : List Upd) (n : Nat) (v : Value) (wr : World) : Prop where
  own : wr.ownsRow (w0.heap.size + 2) 31 4 v l.length (cellsU l)
  set : KeyS wr (w0.heap.size + 1) n (l.map Upd.key)
  key0 : wr.cell? ⟨w0.heap.size, 0, none⟩ = some (.string (S s0))
  key1 : wr.cell? ⟨w0.heap.size, 1, none⟩ = some (.string (S s1))
  below : Below w0.heap.size w0 wr
theorem AllAt.size {w0 : World} {s0 s1 : List UInt8} {l : List Upd} {n : Nat} {v : Value} {wr : World} (h : AllAt w0 s0 s1 l n v wr) : w0.heap.size + 1 < wr.heap.size := h.set.lt
theorem AllAt.on {w0 : World} {s0 s1 : List UInt8} {l : List Upd} {n : Nat} {v : Value} {wr w' : World} (h : AllAt w0 s0 s1 l n v wr) (hb : Below wr.heap.size wr w') : AllAt w0 s0 s1 l n v w' :=
  ⟨own_below h.own hb, h.set.below hb, ((bcell hb).1 w0.heap.size 0 (by have := h.size; omega)).trans h.key0, ((bcell hb).1 w0.heap.size 1 (by have := h.size; omega)).trans h.key1, h.below.trans (below_same hb (by have := h.size; omega))⟩
theorem AllAt.put {w0 : World} {s0 s1 : List UInt8} {l : List Upd} {n : Nat} {v : Value} {wr w1 w2 : World} {u : Upd} (h : AllAt w0 s0 s1 l n v wr) {v' : Value} (hset : KeyS w1 (w0.heap.size + 1) (n + 1) (l.map Upd.key ++ [u.key])) (h1 : wr.grownBy w1 (some (w0.heap.size + 1)))
    {t : TypeId} (hown : w2.ownsRow (w0.heap.size + 2) 31 4 v' (l.length + 1) (cellsU l ++ [.int .u8 u.kind, .string (S u.key), .string (S u.val), .int .u64 u.delta])) (h2 : (w1.alloc (.cells #[.int .u8 u.kind, .string (S u.key), .string (S u.val), .int .u64 u.delta] t)).grownBy w2 v.ownBlock) :
    AllAt w0 s0 s1 (l ++ [u]) (n + 1) v' w2 := by
  have hne : ∀ k, v.ownBlock = some k → w0.heap.size + 2 ≤ k := fun k e => (h.own.lt k e).1
  have hsz := h.size
  have hs1 := h1.size
  have hA : w1.grownBy w2 v.ownBlock := by
    refine ⟨h2.os, h2.tape, h2.output, Nat.le_trans (by simp) h2.size, fun i hi he => ?_⟩
    exact (h2.block i (by simp; omega) he).trans (Below.heap_alloc _ _ _ hi)
  have hc : ∀ o, w2.cell? ⟨w0.heap.size, o, none⟩ = wr.cell? ⟨w0.heap.size, o, none⟩ := fun o => by
    refine (World.cell?_of_block (hA.block w0.heap.size (by omega) (fun e => by have := hne _ e.symm; omega))).trans ?_
    exact World.cell?_of_block (h1.block w0.heap.size (by omega) (by simp))
  refine ⟨?_, ?_, (hc 0).trans h.key0, (hc 1).trans h.key1, ?_⟩
  · rw [cellsU_snoc, List.length_append, List.length_singleton]; exact hown
  · rw [List.map_append]
    exact hset.kept hA (fun e => by have := hne _ e.symm; omega)
  · exact below_grown (below_grown h.below h1 (fun k e => by simp at e; omega) (by omega)) hA (fun k e => by have := hne k e; omega) (by omega)

theorem tame_upd (u : Upd) (w : World) (h1 : u.kind < 256) (h2 : u.key.length ≤ 140737488355328) (h3 : u.val.length ≤ 140737488355328) :
    Calls Try.prog 11 #[.agg #[.int .u8 u.kind, .string (S u.key), .string (S u.val), .int .u64 u.delta]] w fun e w' => (∃ T, tameL u = T ∧ e = .returned (.tuple #[.agg #[.int .u8 T.kind, .string (S T.key), .string (S T.val), .int .u64 T.delta], .agg #[.int .u8 T.kind, .string (S T.key), .string (S T.val), .int .u64 T.delta]])) ∧ Below w.heap.size w w' :=
  (tame_any u.kind u.key u.val u.delta w h1 h2 h3).mono fun _ _ ⟨he, hb⟩ => ⟨⟨_, rfl, he⟩, hb⟩
theorem tame_fits (u : Upd) (h : u.Wf) : (tameL u).Wf ∧ (tameL u).key.length ≤ 3 ∧ (tameL u).val.length ≤ 20 := by
  obtain ⟨h1, h2⟩ := h
  refine ⟨⟨by show 1 + u.kind % 3 < 256; omega, ?_⟩, ?_, ?_⟩
  · show (if 1 + u.kind % 3 = 3 then u.delta else 0) < _
    split <;> omega
  · show ((u.key ++ [107]).take _).length ≤ 3
    rw [List.length_take]; omega
  · show (if 1 + u.kind % 3 = 1 then u.val.take _ else []).length ≤ 20
    split
    · rw [List.length_take]; omega
    · simp

end Go.Proofs.Ytcjeonamebnpfaa
