/-
  A shelf's map of blocks, by their addresses: what it tells, and what a store makes of it. A map by pointers that is only written.
-/
import Derived.Test.YtafciefjlkdecaaGreatTra
import Derived.Maps.OwnOps
import Derived.Maps.OwnSet
namespace Go.Proofs.YtafciefjlkdecaaGreat
open Go.RowKit
open Go.Maps (Keyed)

/-- A saved block: its kind, its payload, its generation. -/
structure Blk where
  kind : Nat
  pay : List UInt8
  gen : Nat
def blk0 : Blk := ⟨0, [], 0⟩
def blkV (b : Blk) : Value := .agg #[.int .u8 b.kind, .string (S b.pay), .int .u64 b.gen]
def blkD (b : Blk) : DataW Unit := .agg [.lit (.int .u8 b.kind), .lit (.string b.pay), .lit (.int .u64 b.gen)]
/-- How a block reads. -/
def blkR (v : Value) : Option (DataW Unit × List MemPlace) :=
  match v with
  | .agg ⟨[.int .u8 k, .string s, .int .u64 g]⟩ => if 0 ≤ k ∧ 0 ≤ g then some (blkD ⟨k.toNat, s.data.toList, g.toNat⟩, []) else none
  | _ => none
theorem blkR_mk (b : Blk) : blkR (blkV b) = some (blkD b, []) := by
  unfold blkV blkR
  simp [S_data]
theorem blkD_inj {a b : Blk} (h : blkD a = blkD b) : a = b := by
  obtain ⟨k, p, g⟩ := a
  obtain ⟨k', p', g'⟩ := b
  simp [blkD] at h
  obtain ⟨h1, h2, h3⟩ := h
  obtain rfl : k = k' := by omega
  obtain rfl : g = g' := by omega
  rw [h2]
theorem blkR_inv {v : Value} {b : Blk} {ps : List MemPlace} (h : blkR v = some (blkD b, ps)) : v = blkV b := by
  unfold blkR at h
  split at h
  · rename_i k s g
    split at h
    · rename_i hk
      simp only [Option.some.injEq, Prod.mk.injEq] at h
      have hb := blkD_inj h.1
      subst hb
      unfold blkV
      simp only [Value.agg.injEq]
      obtain ⟨l, rfl⟩ := S_ex s
      rw [S_data, Int.toNat_of_nonneg hk.1, Int.toNat_of_nonneg hk.2]
    · cases h
  · cases h

/-- Block b of w is a shelf's map: at most n entries, sz of them, told by f. -/
structure ShMap (w : World) (b n sz : Nat) (f : Int → Option Blk) : Prop where
  own : ∃ D : DataW Unit, w.ownsMap Tryz.prog 3 blkR b n D ∧ Maps.size D = sz ∧ ∀ i : Int, Maps.has D (.int .i64 i) = (f i).isSome ∧ D.atKey (.int .i64 i) (blkD blk0) = blkD ((f i).getD blk0)
section
variable {w w' : World} {b n sz : Nat} {f : Int → Option Blk}
theorem ShMap.made (w : World) : ShMap (w.alloc (.map #[] 0)) w.heap.size 0 0 (fun _ => none) := ⟨.map [], World.ownsMap_made _ _ _ _, rfl, fun _ => ⟨rfl, rfl⟩⟩
theorem ShMap.lt (h : ShMap w b n sz f) : b < w.heap.size := by obtain ⟨D, h, _⟩ := h; exact h.lt
theorem ShMap.kept' {row : Option Nat} (h : ShMap w b n sz f) (hg : w.grownBy w' row) (hne : some b ≠ row) : ShMap w' b n sz f := by
  obtain ⟨D, h, hs⟩ := h
  exact ⟨D, h.kept hg hne, hs⟩
theorem ShMap.on (h : ShMap w b n sz f) (hb : Below w.heap.size w w') : ShMap w' b n sz f := h.kept' (row := none) ⟨hb.os, hb.tape, hb.output, hb.size, fun i hi _ => hb.block i hi⟩ (by simp)
theorem ShMap.kept {B : Nat} (h : ShMap w b n sz f) (hb : Below B w w') (hB : w.heap.size ≤ B) : ShMap w' b n sz f := h.on (hb.mono hB)
theorem ShMap.mono (h : ShMap w b n sz f) {m : Nat} (hm : n ≤ m) : ShMap w b m sz f := by
  obtain ⟨D, h, hs⟩ := h
  exact ⟨D, h.mono hm, hs⟩

theorem zeroBlk (w : World) : (zeroValue 86).run Tryz.prog w = .ok (blkV blk0) w := by kernel_rfl
theorem intK : Keyed Tryz.prog 3 := Maps.int_keyed Tryz.underlying3
theorem key_int (i : Nat) (hi : i < 9223372036854775808) : keyOf Tryz.prog 3 (.int .i64 (i : Int)) = some (.int .i64 (i : Int)) := Maps.keyOf_int_mk Tryz.underlying3 (by simp [Lit.wf, IntKind.min, IntKind.max, IntKind.bits, IntKind.signed]; omega)

theorem ShMap.look (h : ShMap w b n sz f) (i : Nat) (hi : i < 9223372036854775808) : (Instr.lookup 24 (.map (some b)) (.int .i64 (i : Int)) true).run Tryz.prog w = .ok (.tuple #[blkV ((f (i : Int)).getD blk0), .bool (f (i : Int)).isSome]) w := by
  obtain ⟨D, h, -, hs⟩ := h
  obtain ⟨v, ps, hrun, hv⟩ := h.look_ok intK Tryz.underlying24 (zeroBlk w) (blkR_mk blk0) (key_int i hi)
  rw [(hs i).2] at hv
  rw [hrun, (hs i).1, blkR_inv hv]
theorem ShMap.len (h : ShMap w b n sz f) (ty : TypeId) : (Builtin.len_ #[24] ty #[.map (some b)]).run Tryz.prog w = .ok (.int .i64 (sz : Int)) w := by
  obtain ⟨D, h, hz, -⟩ := h
  have := h.len Tryz.underlying24 ty
  rw [hz] at this
  exact this
theorem ShMap.put (h : ShMap w b n sz f) (hn : n < 100000) (i : Nat) (hi : i < 9223372036854775808) (x : Blk) (f' : Int → Option Blk) (h1 : f' (i : Int) = some x) (h2 : ∀ j : Int, j ≠ (i : Int) → f' j = f j) : ∃ w', (Instr.mapUpdate 24 (.map (some b)) (.int .i64 (i : Int)) (blkV x)).run Tryz.prog w = .ok () w' ∧ ShMap w' b (n + 1) (if (f (i : Int)).isSome then sz else sz + 1) f' ∧ w.grownBy w' (some b) := by
  obtain ⟨D, h, hz, hs⟩ := h
  obtain ⟨w', hrun, r1, r2⟩ := h.update intK Tryz.underlying24 (by unfold maxLen; omega) (key_int i hi) (blkR_mk x)
  have hkl : WideAt.IsKeyLit (.int .i64 (i : Int)) := intK.key (key_int i hi)
  refine ⟨w', hrun, ⟨_, r1, ?_, fun j => ?_⟩, r2⟩
  · rw [Maps.size_put (h.tidy intK), (hs i).1, hz]
  · by_cases e : j = (i : Int)
    · subst e
      rw [Maps.has_put_same h.isMap hkl, Maps.atKey_put_same h.isMap hkl, h1]
      exact ⟨rfl, rfl⟩
    · have hne : (Lit.int .i64 j) ≠ .int .i64 (i : Int) := fun q => e (by injection q)
      rw [Maps.has_put_other hne, Maps.atKey_put_other hne, h2 j e]
      exact hs j
end

/-- A map by pointers, of which nothing is told. -/
theorem ptr_first (w : World) (b c : Nat) (a : Addr) (v : Value) (hb : w.heap[b]? = some (.map #[] c)) : ∃ w', (Instr.mapUpdate 119 (.map (some b)) (.pointer (some a)) v).run Tryz.prog w = .ok () w' ∧ w.grownBy w' (some b) := by
  have h1 : (Instr.checkKey false 10000 97 (.pointer (some a))).run Tryz.prog w = .ok () w := by
    rw [show (10000 : Nat) = 9999 + 1 from rfl, Instr.checkKey]
    simp [run_underlying Tryz.underlying97, Result.andThen]
  have h2 : (Instr.findKey 97 (.pointer (some a)) []).run Tryz.prog w = .ok none w := by
    simp [Instr.findKey, Instr.findNow, run_underlying Tryz.underlying97, Result.andThen]
  refine ⟨ChangeMaps.setBlock w b (.map #[⟨.pointer (some a), v, c⟩] (c + 1)), ?_, ⟨rfl, rfl, rfl, by simp [ChangeMaps.setBlock], fun i _ hi => ChangeMaps.heap_setBlock_other hb _ (fun e => hi (by rw [e]))⟩⟩
  simp [Instr.mapUpdate, run_underlying Tryz.underlying119, MapKept.run_getObj_map hb, h1, h2, MapKept.run_setObj_map _ hb, ChangeMaps.setBlock, Result.andThen]

/-- A store into a map, in a region whose order is drawn. -/
theorem step_mapPut {P : Program} {ops : Array Oper} {o : Oper} {a : Act} {w : World} {K : Act → World → Prop} {Q : Exit → Act → World → Prop} {E0 : Prop} (hgd : o.guard = none) (m x v : Operand) (t : TypeId)
    (ho : o.op = Op.mapUpdate t m x v) (mv xv vv : Value) (hm : a.eval m = mv) (hx : a.eval x = xv) (hv : a.eval v = vv) (R : World → Prop) (hr : ∃ w', (Instr.mapUpdate t mv xv vv).run P w = .ok () w' ∧ R w')
    (h : ∀ w', R w' → K (a.put o.dst undef) w') :
    if Region.wanted o (yielded ops a.tmps) = true then Oper.wp P o a w K Q else E0 := by
  have hw : Region.wanted o (yielded ops a.tmps) = true := by simp [Region.wanted, hgd]
  rw [if_pos hw]
  obtain ⟨w', hr, hR⟩ := hr
  unfold Oper.wp
  simp only [execOp, ho, hm, hx, hv, Sem.run_bind, Sem.run_pure, Result.andThen_ok, hr]
  exact h w' hR

end Go.Proofs.YtafciefjlkdecaaGreat
