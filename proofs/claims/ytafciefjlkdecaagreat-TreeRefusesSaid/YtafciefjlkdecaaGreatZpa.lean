/-
  The walks of layer 19 (pick) below the heap: which is ahead, the swap, the last one, how many; how a call through heap.Interface finds them.
  The heap of layer 19 in memory, and the walks of its swap and its last one.
  The walk of container/heap's down over the places.
  The walks of container/heap's Init and Pop over the places.
  The walk of pick.heaped: the counts as a heap.
  The walk of pick.Top.
-/
import Derived.Test.YtafciefjlkdecaaGreatZa
import Derived.BigQuiet
import Derived.Deep.QuietTactic
import Derived.BigRegion
import Derived.Maps.AppendAt
namespace Go.Proofs.YtafciefjlkdecaaGreat
open Go.RowKit

theorem wrapChk (ts : Array TypeId) (ty : TypeId) (a : Addr) (s m : ByteArray) : Builtin.ssaWrapNilChk_ ts ty #[.pointer (some a), .string s, .string m] = pure (.pointer (some a)) := rfl

/-- A call through an interface of a pointer's method with a value receiver. -/
theorem meth_val {P : Program} {t e : TypeId} {name : String} {f : FuncId} {i : TypeInfo} {m : Go.Method} (hi : P.info? t = some i) (hm : i.methods.find? (·.name == name) = some m) (hp : m.path = #[]) (hf : m.func = some (f, false))
    (ht : P.underlying t = some (.pointer e)) (hag : ∀ w, (isAgg e).run P w = .ok false w) (k : Nat) (a : Addr) (v : Value) (w : World) (hc : w.cell? a = some v) :
    (method (k + 1) t (.pointer (some a)) name).run P w = .ok (f, v) w := by
  unfold method
  simp [typeInfo, hi, hm, hp, hf, follow, receiverAt, run_underlying ht, Place.get, strVal, wrapChk, loadVar, asAddr, hag, hc]
/-- .. with a pointer receiver. -/
theorem meth_ptr {P : Program} {t e : TypeId} {name : String} {f : FuncId} {i : TypeInfo} {m : Go.Method} (hi : P.info? t = some i) (hm : i.methods.find? (·.name == name) = some m) (hp : m.path = #[]) (hf : m.func = some (f, true))
    (ht : P.underlying t = some (.pointer e)) (k : Nat) (a : Addr) (w : World) :
    (method (k + 1) t (.pointer (some a)) name).run P w = .ok (f, .pointer (some a)) w := by
  unfold method
  simp [typeInfo, hi, hm, hp, hf, follow, receiverAt, run_underlying ht, Place.get]

theorem meth_parts {P : Program} {t : TypeId} {name : String} {f : FuncId} {b : Bool} (h : ((P.info? t).bind fun i => (i.methods.find? (·.name == name)).map fun m => (m.path, m.func)) = some (#[], some (f, b))) :
    ∃ (i : TypeInfo) (m : Go.Method), P.info? t = some i ∧ i.methods.find? (·.name == name) = some m ∧ m.path = #[] ∧ m.func = some (f, b) := by
  obtain ⟨i, hi, h⟩ := Option.bind_eq_some_iff.1 h
  obtain ⟨m, hm, h⟩ := Option.map_eq_some_iff.1 h
  simp only [Prod.mk.injEq] at h
  exact ⟨i, m, hi, hm, h.1, h.2⟩
theorem isAgg_places (w : World) : (isAgg 288).run Tryz.prog w = .ok false w := by kernel_rfl
theorem m_Len : ((Tryz.prog.info? 279).bind fun i => (i.methods.find? (·.name == "Len")).map fun m => (m.path, m.func)) = some (#[], some (178, false)) := by kernel_rfl
theorem m_Less : ((Tryz.prog.info? 279).bind fun i => (i.methods.find? (·.name == "Less")).map fun m => (m.path, m.func)) = some (#[], some (207, false)) := by kernel_rfl
theorem m_Swap : ((Tryz.prog.info? 279).bind fun i => (i.methods.find? (·.name == "Swap")).map fun m => (m.path, m.func)) = some (#[], some (209, false)) := by kernel_rfl
theorem m_Pop : ((Tryz.prog.info? 279).bind fun i => (i.methods.find? (·.name == "Pop")).map fun m => (m.path, m.func)) = some (#[], some (208, true)) := by kernel_rfl

theorem call_Len (k : Nat) (a : Addr) (v : Value) (w : World) (hc : w.cell? a = some v) : (method (k + 1) 279 (.pointer (some a)) "Len").run Tryz.prog w = .ok (178, v) w := by
  obtain ⟨i, m, h1, h2, h3, h4⟩ := meth_parts m_Len
  exact meth_val h1 h2 h3 h4 Tryz.underlying279 isAgg_places k a v w hc
theorem call_Less (k : Nat) (a : Addr) (v : Value) (w : World) (hc : w.cell? a = some v) : (method (k + 1) 279 (.pointer (some a)) "Less").run Tryz.prog w = .ok (207, v) w := by
  obtain ⟨i, m, h1, h2, h3, h4⟩ := meth_parts m_Less
  exact meth_val h1 h2 h3 h4 Tryz.underlying279 isAgg_places k a v w hc
theorem call_Swap (k : Nat) (a : Addr) (v : Value) (w : World) (hc : w.cell? a = some v) : (method (k + 1) 279 (.pointer (some a)) "Swap").run Tryz.prog w = .ok (209, v) w := by
  obtain ⟨i, m, h1, h2, h3, h4⟩ := meth_parts m_Swap
  exact meth_val h1 h2 h3 h4 Tryz.underlying279 isAgg_places k a v w hc
theorem call_Pop (k : Nat) (a : Addr) (w : World) : (method (k + 1) 279 (.pointer (some a)) "Pop").run Tryz.prog w = .ok (208, .pointer (some a)) w := by
  obtain ⟨i, m, h1, h2, h3, h4⟩ := meth_parts m_Pop
  exact meth_ptr h1 h2 h3 h4 Tryz.underlying279 k a w

set_option maxHeartbeats 400000 in
theorem places_len (ao : Option Addr) (n cap : Nat) (w : World) :
    Calls Tryz.prog 178 #[.slice ao n cap] w fun e w' => e = .returned (.int .i64 n) ∧ w = w' := by
  go_enter Tryz.func178, Tryz.ntmps178
  go_wp2
  go_ret
  exact ⟨rfl, rfl⟩

/-- Is one place ahead of another: (its place, its count). -/
def ahead (a b : Int × Int) : Bool := decide (b.2 < a.2 ∨ (a.2 = b.2 ∧ a.1 < b.1))

set_option maxHeartbeats 1000000 in
theorem places_less (g n cap i k : Nat) (a b : Int × Int) (w : World) (hi : i < n) (hk : k < n)
    (ca : w.cell? ⟨g, i * 2, none⟩ = some (.int .i64 a.1)) (cb : w.cell? ⟨g, i * 2 + 1, none⟩ = some (.int .i64 a.2))
    (da : w.cell? ⟨g, k * 2, none⟩ = some (.int .i64 b.1)) (db : w.cell? ⟨g, k * 2 + 1, none⟩ = some (.int .i64 b.2)) :
    Calls Tryz.prog 207 #[.slice (some ⟨g, 0, none⟩) n cap, .int .i64 i, .int .i64 k] w fun e w' => e = .returned (.bool (ahead a b)) ∧ ∃ m, w' = w.drewN m := by
  obtain ⟨a1, a2⟩ := a
  obtain ⟨b1, b2⟩ := b
  dsimp only at ca cb da db
  have hi0 : (0 : Int) ≤ (i : Int) := Int.natCast_nonneg _
  have hi1 : (i : Int) < (n : Int) := by omega
  have hk0 : (0 : Int) ≤ (k : Int) := Int.natCast_nonneg _
  have hk1 : (k : Int) < (n : Int) := by omega
  by_cases h1 : b2 < a2
  · have Hv := Lib.hid (show ahead (a1, a2) (b1, b2) = true by simp [ahead, h1])
    go_enter Tryz.func207, Tryz.ntmps207
    go_wp2_with fail
    go_quiet (fail)
    go_wp2_with fail
    go_ret
    exact ⟨ret_bool (by rw [Hv.out]), ⟨_, rfl⟩⟩
  · have h1' : decide (b2 < a2) = false := by simpa using h1
    clear h1
    by_cases h2 : a2 = b2
    · subst h2
      have Hv := Lib.hid (show ahead (a1, a2) (b1, a2) = decide (a1 < b1) by simp [ahead])
      go_enter Tryz.func207, Tryz.ntmps207
      go_wp2_with fail
      go_quiet (fail)
      go_wp2_with fail
      go_ret
      exact ⟨ret_bool (by rw [Hv.out]), ⟨_, rfl⟩⟩
    · have Hv := Lib.hid (show ahead (a1, a2) (b1, b2) = false by simp [ahead, h2]; simpa using h1')
      have h2' : (a2 == b2) = false := by simpa using h2
      clear h2
      go_enter Tryz.func207, Tryz.ntmps207
      go_wp2_with fail
      go_quiet (fail)
      go_wp2_with fail
      go_ret
      exact ⟨ret_bool (by rw [Hv.out]), ⟨_, rfl⟩⟩

end Go.Proofs.YtafciefjlkdecaaGreat

namespace Go.Proofs.YtafciefjlkdecaaGreat
open Go.RowKit

/-- Only the blocks p and g have turned, and new ones have come. -/
structure Only2 (p g : Nat) (w w' : World) : Prop where
  os : w'.os = w.os
  tape : w'.tape = w.tape
  output : w'.output = w.output
  size : w.heap.size ≤ w'.heap.size
  block : ∀ k, k < w.heap.size → k ≠ p → k ≠ g → w'.heap[k]? = w.heap[k]?
theorem Only2.refl (p g : Nat) (w : World) : Only2 p g w w := ⟨rfl, rfl, rfl, Nat.le_refl _, fun _ _ _ _ => rfl⟩
theorem Only2.trans {p g : Nat} {a b c : World} (h : Only2 p g a b) (k : Only2 p g b c) : Only2 p g a c :=
  ⟨k.os.trans h.os, k.tape.trans h.tape, k.output.trans h.output, Nat.le_trans h.size k.size, fun i hi h1 h2 => (k.block i (Nat.lt_of_lt_of_le hi h.size) h1 h2).trans (h.block i hi h1 h2)⟩
theorem Only2.drewN {p g : Nat} {a b : World} (h : Only2 p g a b) (n : Nat) : Only2 p g a (b.drewN n) := ⟨h.os, h.tape, h.output, h.size, h.block⟩
theorem Only2.drew {p g : Nat} {a b : World} (h : Only2 p g a b) : Only2 p g a b.drew := ⟨h.os, h.tape, h.output, h.size, h.block⟩
theorem Only2.alloc {p g : Nat} {a b : World} (h : Only2 p g a b) (o : Obj) : Only2 p g a (b.alloc o) :=
  h.trans ⟨rfl, rfl, rfl, by simp, fun k hk _ _ => Below.heap_alloc _ _ _ hk⟩
theorem Only2.setCell {p g : Nat} {a b : World} (h : Only2 p g a b) {x : Addr} (hx : x.block = p ∨ x.block = g) (v : Value) : Only2 p g a (b.setCell x v) :=
  h.trans ⟨rfl, rfl, rfl, by simp, fun k _ h1 h2 => Below.heap_setCell _ _ _ _ (by rcases hx with e | e <;> rw [e] <;> assumption)⟩
theorem Only2.below {p g B : Nat} {a b : World} (h : Only2 p g a b) (hp : B ≤ p) (hg : B ≤ g) (hB : B ≤ a.heap.size) : Below B a b :=
  ⟨h.os, h.tape, h.output, h.size, fun k hk => h.block k (by omega) (by omega) (by omega)⟩
theorem Only2.cell {p g : Nat} {a b : World} (h : Only2 p g a b) {x : Addr} {v : Value} (hp : x.block ≠ p) (hg : x.block ≠ g) (hc : a.cell? x = some v) : b.cell? x = some v :=
  (World.cell?_of_block (h.block x.block (World.block_lt_of_cell? a x hc) hp hg)).trans hc

/-- The heap: its header at block p, its places in block g. -/
structure HeapAt (p g cap : Nat) (l : List (Int × Int)) (w : World) : Prop where
  head : w.cell? ⟨p, 0, none⟩ = some (.slice (some ⟨g, 0, none⟩) l.length cap)
  free : ∀ o, w.frozen? ⟨p, o, none⟩ = false
  ne : g ≠ p
  fits : l.length ≤ cap ∧ cap ≤ 9223372036854775807
  cells : ∀ i (h : i < l.length), w.cell? ⟨g, i * 2, none⟩ = some (.int .i64 l[i].1) ∧ w.cell? ⟨g, i * 2 + 1, none⟩ = some (.int .i64 l[i].2)
  gfree : ∀ o, w.frozen? ⟨g, o, none⟩ = false
theorem HeapAt.drewN {p g cap : Nat} {l : List (Int × Int)} {w : World} (h : HeapAt p g cap l w) (n : Nat) : HeapAt p g cap l (w.drewN n) := ⟨h.head, h.free, h.ne, h.fits, h.cells, h.gfree⟩
theorem HeapAt.drew {p g cap : Nat} {l : List (Int × Int)} {w : World} (h : HeapAt p g cap l w) : HeapAt p g cap l w.drew := ⟨h.head, h.free, h.ne, h.fits, h.cells, h.gfree⟩

/-- Two places of a list changed. -/
def swapL (l : List (Int × Int)) (i k : Nat) : List (Int × Int) := (l.set i (l.getD k (0, 0))).set k (l.getD i (0, 0))
theorem swapL_length (l : List (Int × Int)) (i k : Nat) : (swapL l i k).length = l.length := by simp [swapL]
theorem swapL_get (l : List (Int × Int)) (i k j : Nat) (hi : i < l.length) (hk : k < l.length) (hj : j < (swapL l i k).length) :
    (swapL l i k)[j] = if j = k then l[i] else if j = i then l[k] else l[j]'(by rwa [swapL_length] at hj) := by
  simp only [swapL, List.getElem_set, List.getD, List.getElem?_eq_getElem hi, List.getElem?_eq_getElem hk, Option.getD_some]
  by_cases h1 : j = k
  · subst h1; simp
  · by_cases h2 : j = i
    · subst h2; simp [h1, Ne.symm h1]
    · simp [h1, h2, Ne.symm h1, Ne.symm h2]

theorem step_cell {w : World} {g o o' : Nat} {v u : Value} (h : w.cell? ⟨g, o', none⟩ = some u) : (w.setCell ⟨g, o, none⟩ v).cell? ⟨g, o', none⟩ = some (if o' = o then v else u) := by
  by_cases e : o' = o
  · subst e; rw [if_pos rfl]; exact World.cell?_setCell_same _ _ _ h
  · rw [if_neg e, World.cell?_setCell_other _ _ _ _ (fun x => e (congrArg Addr.off x).symm)]; exact h
theorem far_cell {w : World} {g p o o' : Nat} {v u : Value} (hne : g ≠ p) (h : w.cell? ⟨p, o', none⟩ = some u) : (w.setCell ⟨g, o, none⟩ v).cell? ⟨p, o', none⟩ = some u := by
  rw [World.cell?_setCell_other _ _ _ _ (fun x => hne (congrArg Addr.block x))]; exact h

/-- Four stores into a row, two elements changed. -/
theorem swap_world {p g cap : Nat} {l : List (Int × Int)} {w : World} (h : HeapAt p g cap l w) {i k : Nat} (hi : i < l.length) (hk : k < l.length) :
    HeapAt p g cap (swapL l i k) ((((w.setCell ⟨g, i * 2, none⟩ (.int .i64 l[k].1)).setCell ⟨g, i * 2 + 1, none⟩ (.int .i64 l[k].2)).setCell ⟨g, k * 2, none⟩ (.int .i64 l[i].1)).setCell ⟨g, k * 2 + 1, none⟩ (.int .i64 l[i].2)) := by
  have hne := h.ne
  refine ⟨?_, ?_, h.ne, by rw [swapL_length]; exact h.fits, ?_, ?_⟩
  · rw [swapL_length]
    exact far_cell hne (far_cell hne (far_cell hne (far_cell hne h.head)))
  · intro o; simp only [World.frozen?_setCell]; exact h.free o
  · intro j hj
    have hj' : j < l.length := by rwa [swapL_length] at hj
    rw [swapL_get l i k j hi hk hj]
    obtain ⟨c0, c1⟩ := h.cells j hj'
    have e0 := step_cell (o := k * 2 + 1) (v := .int .i64 l[i].2) (step_cell (o := k * 2) (v := .int .i64 l[i].1) (step_cell (o := i * 2 + 1) (v := .int .i64 l[k].2) (step_cell (o := i * 2) (v := .int .i64 l[k].1) c0)))
    have e1 := step_cell (o := k * 2 + 1) (v := .int .i64 l[i].2) (step_cell (o := k * 2) (v := .int .i64 l[i].1) (step_cell (o := i * 2 + 1) (v := .int .i64 l[k].2) (step_cell (o := i * 2) (v := .int .i64 l[k].1) c1)))
    rw [e0, e1]
    by_cases h1 : j = k
    · subst h1
      constructor <;> (repeat' split) <;> first | rfl | (exfalso; omega)
    · by_cases h2 : j = i
      · subst h2
        constructor <;> (repeat' split) <;> first | rfl | (exfalso; omega)
      · constructor <;> (repeat' split) <;> first | rfl | (exfalso; omega)
  · intro o; simp only [World.frozen?_setCell]; exact h.gfree o

set_option maxHeartbeats 1000000 in
theorem places_swap (p g cap : Nat) (l : List (Int × Int)) (i k : Nat) (w : World) (h : HeapAt p g cap l w) (hi : i < l.length) (hk : k < l.length) (hik : i ≠ k) :
    Calls Tryz.prog 209 #[.slice (some ⟨g, 0, none⟩) l.length cap, .int .i64 i, .int .i64 k] w fun e w' => e = .returned (.tuple #[]) ∧ HeapAt p g cap (swapL l i k) w' ∧ Only2 p g w w' := by
  obtain ⟨ca, cb⟩ := h.cells i hi
  obtain ⟨da, db⟩ := h.cells k hk
  have hf := h.gfree
  have hi0 : (0 : Int) ≤ (i : Int) := Int.natCast_nonneg _
  have hi1 : (i : Int) < (l.length : Int) := by omega
  have hk0 : (0 : Int) ≤ (k : Int) := Int.natCast_nonneg _
  have hk1 : (k : Int) < (l.length : Int) := by omega
  go_enter Tryz.func209, Tryz.ntmps209
  go_wp2_with fail
  go_region
  go_wp2_with fail
  go_end0
  exact ⟨rfl, (swap_world h hi hk).drew, ((((((Only2.refl p g w).setCell (Or.inr rfl) _).setCell (Or.inr rfl) _).setCell (Or.inr rfl) _).setCell (Or.inr rfl) _)).drew⟩


set_option maxHeartbeats 1000000 in
theorem places_swap_same (p g cap : Nat) (l : List (Int × Int)) (i : Nat) (w : World) (h : HeapAt p g cap l w) (hi : i < l.length) :
    Calls Tryz.prog 209 #[.slice (some ⟨g, 0, none⟩) l.length cap, .int .i64 i, .int .i64 i] w fun e w' => e = .returned (.tuple #[]) ∧ HeapAt p g cap (swapL l i i) w' ∧ Only2 p g w w' := by
  obtain ⟨ca, cb⟩ := h.cells i hi
  have hf := h.gfree
  have hi0 : (0 : Int) ≤ (i : Int) := Int.natCast_nonneg _
  have hi1 : (i : Int) < (l.length : Int) := by omega
  go_enter Tryz.func209, Tryz.ntmps209
  go_wp2_with fail
  go_region
  go_wp2_with fail
  go_end0
  exact ⟨rfl, (swap_world h hi hi).drew, ((((((Only2.refl p g w).setCell (Or.inr rfl) _).setCell (Or.inr rfl) _).setCell (Or.inr rfl) _).setCell (Or.inr rfl) _)).drew⟩

theorem places_swap_any (p g cap : Nat) (l : List (Int × Int)) (i k : Nat) (w : World) (h : HeapAt p g cap l w) (hi : i < l.length) (hk : k < l.length) :
    Calls Tryz.prog 209 #[.slice (some ⟨g, 0, none⟩) l.length cap, .int .i64 i, .int .i64 k] w fun e w' => e = .returned (.tuple #[]) ∧ HeapAt p g cap (swapL l i k) w' ∧ Only2 p g w w' := by
  by_cases e : i = k
  · subst e; exact places_swap_same p g cap l i w h hi
  · exact places_swap p g cap l i k w h hi hk e

theorem HeapAt.alloc {p g cap : Nat} {l : List (Int × Int)} {w : World} (h : HeapAt p g cap l w) (hg : g < w.heap.size) (o : Obj) : HeapAt p g cap l (w.alloc o) := by
  have hp := World.block_lt_of_cell? w _ h.head
  refine ⟨cell_past o h.head, fun i => ?_, h.ne, h.fits, fun i hi => ⟨cell_past o (h.cells i hi).1, cell_past o (h.cells i hi).2⟩, fun i => ?_⟩
  · exact (World.frozen?_alloc_old _ _ _ (by show p ≠ _; exact Nat.ne_of_lt hp)).trans (h.free i)
  · exact (World.frozen?_alloc_old _ _ _ (by show g ≠ _; exact Nat.ne_of_lt hg)).trans (h.gfree i)
theorem pop_world {p g cap : Nat} {l : List (Int × Int)} {x : Int × Int} {w : World} (h : HeapAt p g cap (l ++ [x]) w) : HeapAt p g cap l (w.setCell ⟨p, 0, none⟩ (.slice (some ⟨g, 0, none⟩) l.length cap)) := by
  have hf := h.fits
  rw [List.length_append, List.length_singleton] at hf
  refine ⟨World.cell?_setCell_same _ _ _ h.head, fun o => by rw [World.frozen?_setCell]; exact h.free o, h.ne, by omega, fun i hi => ?_, fun o => by rw [World.frozen?_setCell]; exact h.gfree o⟩
  have hc := h.cells i (by simp; omega)
  rw [List.getElem_append_left hi] at hc
  exact ⟨far_cell h.ne.symm hc.1, far_cell h.ne.symm hc.2⟩

set_option maxHeartbeats 1000000 in
theorem places_pop (p g cap : Nat) (l : List (Int × Int)) (x : Int × Int) (w : World) (h : HeapAt p g cap (l ++ [x]) w) :
    Calls Tryz.prog 208 #[.pointer (some ⟨p, 0, none⟩)] w fun e w' => e = .returned (.iface 282 (.agg #[.int .i64 x.1, .int .i64 x.2])) ∧ HeapAt p g cap l w' ∧ Only2 p g w w' := by
  have hd := h.head
  have hf := h.free 0
  have hfit := h.fits
  obtain ⟨c0, c1⟩ := h.cells l.length (by simp)
  rw [List.length_append, List.length_singleton] at hd hfit
  simp only [List.getElem_append_right (Nat.le_refl _), Nat.sub_self, List.getElem_cons_zero] at c0 c1
  obtain ⟨hfit1, hfit2⟩ := hfit
  have hp := World.block_lt_of_cell? w _ hd
  have hn := h.ne
  go_enter Tryz.func208, Tryz.ntmps208
  go_wp2_with fail
  go_ret
  exact ⟨rfl, (pop_world h).alloc (by rw [World.size_setCell]; exact World.block_lt_of_cell? w _ c0) _, ((Only2.refl p g w).setCell (Or.inl rfl) _).alloc _⟩

end Go.Proofs.YtafciefjlkdecaaGreat

namespace Go.Proofs.YtafciefjlkdecaaGreat
open Go.RowKit

/-- What a call through the interface comes to: by what the header's cell holds. -/
def methAt (P : Program) (t : TypeId) (name : String) (f : FuncId) (k : Nat) (a : Addr) (w : World) : Option Value → Result (FuncId × Value)
  | some v => .ok (f, v) w
  | none => (method (k + 1) t (.pointer (some a)) name).run P w
@[go_sem] theorem methAt_some (P : Program) (t : TypeId) (name : String) (f : FuncId) (k : Nat) (a : Addr) (w : World) (v : Value) : methAt P t name f k a w (some v) = .ok (f, v) w := rfl
theorem by_Len (k : Nat) (a : Addr) (w : World) : (method (k + 1) 279 (.pointer (some a)) "Len").run Tryz.prog w = methAt Tryz.prog 279 "Len" 178 k a w (w.cell? a) := by
  cases h : w.cell? a with
  | none => rfl
  | some v => exact call_Len k a v w h
theorem by_Less (k : Nat) (a : Addr) (w : World) : (method (k + 1) 279 (.pointer (some a)) "Less").run Tryz.prog w = methAt Tryz.prog 279 "Less" 207 k a w (w.cell? a) := by
  cases h : w.cell? a with
  | none => rfl
  | some v => exact call_Less k a v w h
theorem by_Swap (k : Nat) (a : Addr) (w : World) : (method (k + 1) 279 (.pointer (some a)) "Swap").run Tryz.prog w = methAt Tryz.prog 279 "Swap" 209 k a w (w.cell? a) := by
  cases h : w.cell? a with
  | none => rfl
  | some v => exact call_Swap k a v w h

/-- A place of a list. -/
def pl (l : List (Int × Int)) (i : Nat) : Int × Int := l.getD i (0, 0)
theorem pl_get {l : List (Int × Int)} {i : Nat} (h : i < l.length) : pl l i = l[i] := by simp [pl, h]

theorem less_call (p g cap : Nat) (l : List (Int × Int)) (i k : Int) (w : World) (h : HeapAt p g cap l w) (i0 : 0 ≤ i) (hi : i < l.length) (k0 : 0 ≤ k) (hk : k < l.length) :
    Calls Tryz.prog 207 #[.slice (some ⟨g, 0, none⟩) l.length cap, .int .i64 i, .int .i64 k] w fun e w' => e = .returned (.bool (ahead (pl l i.toNat) (pl l k.toNat))) ∧ ∃ m, w' = w.drewN m := by
  obtain ⟨a, rfl⟩ := Int.eq_ofNat_of_zero_le i0
  obtain ⟨b, rfl⟩ := Int.eq_ofNat_of_zero_le k0
  have ha : a < l.length := by omega
  have hb : b < l.length := by omega
  rw [Int.toNat_natCast, Int.toNat_natCast, pl_get ha, pl_get hb]
  exact places_less g l.length cap a b l[a] l[b] w ha hb (h.cells a ha).1 (h.cells a ha).2 (h.cells b hb).1 (h.cells b hb).2
theorem swap_call (p g cap : Nat) (l : List (Int × Int)) (i k : Int) (w : World) (h : HeapAt p g cap l w) (i0 : 0 ≤ i) (hi : i < l.length) (k0 : 0 ≤ k) (hk : k < l.length) :
    Calls Tryz.prog 209 #[.slice (some ⟨g, 0, none⟩) l.length cap, .int .i64 i, .int .i64 k] w fun e w' => e = .returned (.tuple #[]) ∧ HeapAt p g cap (swapL l i.toNat k.toNat) w' ∧ Only2 p g w w' := by
  obtain ⟨a, rfl⟩ := Int.eq_ofNat_of_zero_le i0
  obtain ⟨b, rfl⟩ := Int.eq_ofNat_of_zero_le k0
  rw [Int.toNat_natCast, Int.toNat_natCast]
  exact places_swap_any p g cap l a b w h (by omega) (by omega)

/-- Which child goes up. -/
def childL (l : List (Int × Int)) (i n : Nat) : Nat := if 2 * i + 2 < n ∧ ahead (pl l (2 * i + 2)) (pl l (2 * i + 1)) = true then 2 * i + 2 else 2 * i + 1
/-- One goes down. -/
def downL : Nat → List (Int × Int) → Nat → Nat → List (Int × Int)
  | 0, l, _, _ => l
  | f + 1, l, i, n =>
    if 2 * i + 1 < n then
      if ahead (pl l (childL l i n)) (pl l i) = true then downL f (swapL l i (childL l i n)) (childL l i n) n else l
    else l
theorem downL_go {f i n : Nat} {l : List (Int × Int)} (h : 2 * i + 1 < n) (k : ahead (pl l (childL l i n)) (pl l i) = true) : downL (f + 1) l i n = downL f (swapL l i (childL l i n)) (childL l i n) n := by
  rw [downL, if_pos h, if_pos k]
theorem downL_stay {f i n : Nat} {l : List (Int × Int)} (h : 2 * i + 1 < n) (k : ahead (pl l (childL l i n)) (pl l i) = false) : downL (f + 1) l i n = l := by
  rw [downL, if_pos h, if_neg (by rw [k]; simp)]
theorem downL_leaf {f i n : Nat} {l : List (Int × Int)} (h : ¬ 2 * i + 1 < n) : downL f l i n = l := by
  cases f with
  | zero => rfl
  | succ f => rw [downL, if_neg h]
theorem childL_lt {l : List (Int × Int)} {i n : Nat} (h : 2 * i + 1 < n) : childL l i n < n ∧ i < childL l i n := by
  unfold childL; split <;> omega

/-- Some bool comes back. -/
def SomeBool (e : Ending) : Prop := ∃ b : Bool, e = .returned (.bool b)

set_option maxHeartbeats 2000000 in
theorem down_any (p g cap : Nat) (l : List (Int × Int)) (i n : Int) (w : World) (h : HeapAt p g cap l w) (i0 : 0 ≤ i) (n0 : 0 ≤ n) (hn : n ≤ l.length) (hin : i ≤ n) (hl : l.length ≤ 1000000000) :
    Calls Tryz.prog 185 #[.iface 279 (.pointer (some ⟨p, 0, none⟩)), .int .i64 i, .int .i64 n] w fun e w' => SomeBool e ∧ HeapAt p g cap (downL n.toNat l i.toNat n.toNat) w' ∧ Only2 p g w w' := by
  have hLess := fun k a w => by_Less k a w
  have hSwap := fun k a w => by_Swap k a w
  obtain ⟨a, rfl⟩ := Int.eq_ofNat_of_zero_le i0
  obtain ⟨b, rfl⟩ := Int.eq_ofNat_of_zero_le n0
  rw [Int.toNat_natCast, Int.toNat_natCast]
  have hab : a ≤ b := by omega
  go_enter Tryz.func185, Tryz.ntmps185
  go_wp2_with fail
  go_loopw [7] (fun j wr => ∃ (k f : Nat) (l' : List (Int × Int)), j = .int .i64 k ∧ k ≤ b ∧ b ≤ k + f ∧ Hid (l'.length = l.length) ∧ HeapAt p g cap l' wr ∧ Hid (downL f l' k b = downL b l a b) ∧ Only2 p g w wr) (fun j _ => b - (intOf j).toNat)
  case atStart => exact ⟨a, b, l, rfl, hab, by omega, Lib.hid rfl, h, Lib.hid rfl, Only2.refl _ _ _⟩
  case round =>
    obtain ⟨k, f, l', rfl, hkb, hfb, hl', hH, hdn, hO⟩ := hrel
    have hd := hH.head
    have hn' : b ≤ l'.length := by rw [hl'.out]; omega
    have hl2 : l'.length ≤ 1000000000 := by rw [hl'.out]; omega
    by_cases h1 : 2 * k + 1 < b
    · obtain ⟨f, rfl⟩ : ∃ f', f = f' + 1 := ⟨f - 1, by omega⟩
      have hc := childL_lt (l := l') h1
      by_cases h2 : 2 * k + 2 < b
      · go_wp2_with fail
        have hc1 := less_call p g cap l' (2 * (k : Int) + 1 + 1) (2 * (k : Int) + 1) wr hH (by omega) (by omega) (by omega) (by omega)
        rw [show (2 * (k : Int) + 1 + 1).toNat = 2 * k + 2 by omega, show (2 * (k : Int) + 1).toNat = 2 * k + 1 by omega] at hc1
        refine hc1.mono ?_
        rintro e w1 ⟨rfl, m1, rfl⟩
        have HH := hH.drewN m1
        have hd1 := HH.head
        cases hb1 : ahead (pl l' (2 * k + 2)) (pl l' (2 * k + 1)) with
        | true =>
          have Hc := Lib.hid (show childL l' k b = 2 * k + 2 by unfold childL; rw [if_pos ⟨h2, hb1⟩])
          clear hb1 hc1
          have hcl : 2 * k + 2 < b := by omega
          go_wp2_with fail
          have hc2 := less_call p g cap l' (2 * (k : Int) + 1 + 1) k _ HH (by omega) (by omega) (by omega) (by omega)
          rw [show (2 * (k : Int) + 1 + 1).toNat = 2 * k + 2 by omega, Int.toNat_natCast] at hc2
          refine hc2.mono ?_
          rintro e w2 ⟨rfl, m2, rfl⟩
          cases hb2 : ahead (pl l' (2 * k + 2)) (pl l' k) with
          | true =>
            have hdg := Lib.hid (downL_go (f := f) h1 (by rw [Hc.out]; exact hb2))
            rw [Hc.out] at hdg
            clear hc2 hb2
            have HH2 := hH.drewN (m1 + m2)
            have hd2 := HH2.head
            go_wp2_with fail
            have hc3 := swap_call p g cap l' k (2 * (k : Int) + 1 + 1) _ HH2 (by omega) (by omega) (by omega) (by omega)
            rw [show (2 * (k : Int) + 1 + 1).toNat = 2 * k + 2 by omega, Int.toNat_natCast] at hc3
            refine hc3.mono ?_
            rintro e w3 ⟨rfl, HH3, hO3⟩
            clear hc3
            go_wp2_with fail
            go_roundw
            case rel => exact ⟨2 * k + 2, f, _, by go_num, by omega, by omega, Lib.hid (by rw [swapL_length]; exact hl'.out), HH3, Lib.hid (by rw [← hdn.out, hdg.out]), (hO.drewN (m1 + m2)).trans hO3⟩
            case measure => simp [intOf]; omega
          | false =>
            have hdg := Lib.hid (downL_stay (f := f) h1 (by rw [Hc.out]; exact hb2))
            clear hc2 hb2
            go_wp2_with fail
            go_ret
            exact ⟨⟨_, rfl⟩, by rw [← hdn.out, hdg.out]; exact hH.drewN (m1 + m2), (hO.drewN (m1 + m2))⟩
        | false =>
          have Hc := Lib.hid (show childL l' k b = 2 * k + 1 by unfold childL; rw [if_neg (by rw [hb1]; simp)])
          clear hb1 hc1
          have hcl : 2 * k + 1 < b := by omega
          go_wp2_with fail
          have hc2 := less_call p g cap l' (2 * (k : Int) + 1) k _ HH (by omega) (by omega) (by omega) (by omega)
          rw [show (2 * (k : Int) + 1).toNat = 2 * k + 1 by omega, Int.toNat_natCast] at hc2
          refine hc2.mono ?_
          rintro e w2 ⟨rfl, m2, rfl⟩
          cases hb2 : ahead (pl l' (2 * k + 1)) (pl l' k) with
          | true =>
            have hdg := Lib.hid (downL_go (f := f) h1 (by rw [Hc.out]; exact hb2))
            rw [Hc.out] at hdg
            clear hc2 hb2
            have HH2 := hH.drewN (m1 + m2)
            have hd2 := HH2.head
            go_wp2_with fail
            have hc3 := swap_call p g cap l' k (2 * (k : Int) + 1) _ HH2 (by omega) (by omega) (by omega) (by omega)
            rw [show (2 * (k : Int) + 1).toNat = 2 * k + 1 by omega, Int.toNat_natCast] at hc3
            refine hc3.mono ?_
            rintro e w3 ⟨rfl, HH3, hO3⟩
            clear hc3
            go_wp2_with fail
            go_roundw
            case rel => exact ⟨2 * k + 1, f, _, by go_num, by omega, by omega, Lib.hid (by rw [swapL_length]; exact hl'.out), HH3, Lib.hid (by rw [← hdn.out, hdg.out]), (hO.drewN (m1 + m2)).trans hO3⟩
            case measure => simp [intOf]; omega
          | false =>
            have hdg := Lib.hid (downL_stay (f := f) h1 (by rw [Hc.out]; exact hb2))
            clear hc2 hb2
            go_wp2_with fail
            go_ret
            exact ⟨⟨_, rfl⟩, by rw [← hdn.out, hdg.out]; exact hH.drewN (m1 + m2), (hO.drewN (m1 + m2))⟩
      · have HH := hH
        have Hc := Lib.hid (show childL l' k b = 2 * k + 1 by unfold childL; rw [if_neg (by omega)])
        have hcl : 2 * k + 1 < b := by omega
        go_wp2_with fail
        have hc2 := less_call p g cap l' (2 * (k : Int) + 1) k _ HH (by omega) (by omega) (by omega) (by omega)
        rw [show (2 * (k : Int) + 1).toNat = 2 * k + 1 by omega, Int.toNat_natCast] at hc2
        refine hc2.mono ?_
        rintro e w2 ⟨rfl, m2, rfl⟩
        cases hb2 : ahead (pl l' (2 * k + 1)) (pl l' k) with
        | true =>
          have hdg := Lib.hid (downL_go (f := f) h1 (by rw [Hc.out]; exact hb2))
          rw [Hc.out] at hdg
          clear hc2 hb2
          have HH2 := HH.drewN m2
          have hd2 := HH2.head
          go_wp2_with fail
          have hc3 := swap_call p g cap l' k (2 * (k : Int) + 1) _ HH2 (by omega) (by omega) (by omega) (by omega)
          rw [show (2 * (k : Int) + 1).toNat = 2 * k + 1 by omega, Int.toNat_natCast] at hc3
          refine hc3.mono ?_
          rintro e w3 ⟨rfl, HH3, hO3⟩
          clear hc3
          go_wp2_with fail
          go_roundw
          case rel => exact ⟨2 * k + 1, f, _, by go_num, by omega, by omega, Lib.hid (by rw [swapL_length]; exact hl'.out), HH3, Lib.hid (by rw [← hdn.out, hdg.out]), (hO.drewN m2).trans hO3⟩
          case measure => simp [intOf]; omega
        | false =>
          have hdg := Lib.hid (downL_stay (f := f) h1 (by rw [Hc.out]; exact hb2))
          clear hc2 hb2
          go_wp2_with fail
          go_ret
          exact ⟨⟨_, rfl⟩, by rw [← hdn.out, hdg.out]; exact HH.drewN m2, (hO.drewN m2)⟩
    · have hlf := Lib.hid (downL_leaf (f := f) (l := l') h1)
      go_wp2_with fail
      go_ret
      exact ⟨⟨_, rfl⟩, by rw [← hdn.out, hlf.out]; exact hH, hO⟩

end Go.Proofs.YtafciefjlkdecaaGreat

namespace Go.Proofs.YtafciefjlkdecaaGreat
open Go.RowKit

theorem by_Pop (k : Nat) (a : Addr) (w : World) : (method (k + 1) 279 (.pointer (some a)) "Pop").run Tryz.prog w = .ok (208, .pointer (some a)) w := call_Pop k a w
theorem downL_length : ∀ (f : Nat) (l : List (Int × Int)) (i n : Nat), (downL f l i n).length = l.length
  | 0, _, _, _ => rfl
  | f + 1, l, i, n => by
    unfold downL
    split
    · split
      · rw [downL_length f, swapL_length]
      · rfl
    · rfl
/-- All parents below k, the last one first. -/
def initL (n : Nat) : Nat → List (Int × Int) → List (Int × Int)
  | 0, l => l
  | k + 1, l => initL n k (downL n l k n)
theorem initL_length (n : Nat) : ∀ (k : Nat) (l : List (Int × Int)), (initL n k l).length = l.length
  | 0, _ => rfl
  | k + 1, l => by rw [initL, initL_length n k, downL_length]

set_option maxHeartbeats 1000000 in
theorem init_any (p g cap : Nat) (l : List (Int × Int)) (w : World) (h : HeapAt p g cap l w) (hl : l.length ≤ 1000000000) :
    Calls Tryz.prog 184 #[.iface 279 (.pointer (some ⟨p, 0, none⟩))] w fun e w' => e = .returned (.tuple #[]) ∧ HeapAt p g cap (initL l.length (l.length / 2) l) w' ∧ Only2 p g w w' := by
  have hLen := fun k a w => by_Len k a w
  have hd := h.head
  go_enter Tryz.func184, Tryz.ntmps184
  go_wp2_with (go_at_call 178; refine (places_len _ _ _ _).mono ?_; rintro e w1 ⟨rfl, rfl⟩)
  go_loopw [3] (fun i wr => ∃ (k : Nat) (l' : List (Int × Int)), i = .int .i64 ((k : Int) - 1) ∧ k ≤ l.length / 2 ∧ Hid (l'.length = l.length) ∧ HeapAt p g cap l' wr ∧ Hid (initL l.length k l' = initL l.length (l.length / 2) l) ∧ Only2 p g w wr) (fun i _ => (intOf i + 1).toNat)
  case atStart => exact ⟨l.length / 2, l, by go_num, Nat.le_refl _, Lib.hid rfl, h, Lib.hid rfl, Only2.refl _ _ _⟩
  case round =>
    obtain ⟨k, l', rfl, hk, hl', hH, hin, hO⟩ := hrel
    cases k with
    | zero =>
      have h0 : ¬ (0 ≤ ((0 : Nat) : Int) - 1) := by omega
      go_wp2_with fail
      go_end0
      exact ⟨rfl, by rw [← hin.out]; exact hH, hO⟩
    | succ k =>
      have hk' : k < l.length / 2 := by omega
      go_wp2_with fail
      have hc := down_any p g cap l' k l.length wr hH (by omega) (by omega) (by rw [hl'.out]; omega) (by omega) (by rw [hl'.out]; omega)
      rw [Int.toNat_natCast, Int.toNat_natCast] at hc
      refine hc.mono ?_
      rintro e w1 ⟨⟨b, rfl⟩, HH, hO1⟩
      clear hc
      go_wp2_with fail
      go_roundw
      case rel => exact ⟨k, _, rfl, by omega, Lib.hid (by rw [downL_length]; exact hl'.out), HH, Lib.hid (by rw [← hin.out]; rfl), hO.trans hO1⟩
      case measure => first | (simp [intOf]; done) | (simp [intOf]; omega)

/-- One less: the first one goes, the last one stands in its place and goes down. -/
def popL (l : List (Int × Int)) : List (Int × Int) := downL (l.length - 1) (swapL l 0 (l.length - 1)) 0 (l.length - 1)
theorem popL_length (l : List (Int × Int)) : (popL l).length = l.length := by rw [popL, downL_length, swapL_length]

set_option maxHeartbeats 1000000 in
theorem pop_any (p g cap : Nat) (l : List (Int × Int)) (w : World) (h : HeapAt p g cap l w) (hl : l.length ≤ 1000000000) (h0 : 0 < l.length) (r : List (Int × Int)) (x : Int × Int) (hr : popL l = r ++ [x]) :
    Calls Tryz.prog 179 #[.iface 279 (.pointer (some ⟨p, 0, none⟩))] w fun e w' => e = .returned (.iface 282 (.agg #[.int .i64 x.1, .int .i64 x.2])) ∧ HeapAt p g cap r w' ∧ Only2 p g w w' := by
  have hLen := fun k a w => by_Len k a w
  have hSwap := fun k a w => by_Swap k a w
  have hPop := fun k a w => by_Pop k a w
  have hd := h.head
  go_enter Tryz.func179, Tryz.ntmps179
  go_wp2_with (go_at_call 178; refine (places_len _ _ _ _).mono ?_; rintro e w1 ⟨rfl, rfl⟩)
  have hc := swap_call p g cap l 0 ((l.length : Int) - 1) w h (by omega) (by omega) (by omega) (by omega)
  rw [show ((l.length : Int) - 1).toNat = l.length - 1 by omega, show (0 : Int).toNat = 0 from rfl] at hc
  refine hc.mono ?_
  rintro e w1 ⟨rfl, H1, hO1⟩
  clear hc
  go_wp2_with fail
  have hc := down_any p g cap _ 0 ((l.length : Int) - 1) w1 H1 (by omega) (by omega) (by rw [swapL_length]; omega) (by omega) (by rw [swapL_length]; omega)
  rw [show ((l.length : Int) - 1).toNat = l.length - 1 by omega, show (0 : Int).toNat = 0 from rfl] at hc
  refine hc.mono ?_
  rintro e w2 ⟨⟨b, rfl⟩, H2, hO2⟩
  clear hc
  have H2' : HeapAt p g cap (r ++ [x]) w2 := by rw [← hr]; exact H2
  clear H2
  go_wp2_with (go_at_call 208; refine (places_pop p g cap r x _ H2').mono ?_; rintro e w3 ⟨rfl, H3, hO3⟩)
  go_ret
  exact ⟨rfl, H3, hO1.trans (hO2.trans hO3)⟩

end Go.Proofs.YtafciefjlkdecaaGreat

namespace Go.Proofs.YtafciefjlkdecaaGreat
open Go.RowKit

/-- A slice of ints that is only read. -/
abbrev IntsAt (w : World) (ao : Option Addr) (l : List Int) : Prop := SlAt (fun x : Int => [Value.int .i64 x]) 1 w ao l
/-- Each place and its count. -/
def pairs (l : List Int) : List (Int × Int) := l.zipIdx.map fun q => ((q.2 : Int), q.1)
theorem pairs_length (l : List Int) : (pairs l).length = l.length := by simp [pairs]
theorem pairs_get (l : List Int) (i : Nat) (h : i < (pairs l).length) : (pairs l)[i] = ((i : Int), l[i]'(by rwa [pairs_length] at h)) := by simp [pairs]
theorem pairs_snoc (l : List Int) (i : Nat) (h : i < l.length) : pairs (l.take (i + 1)) = pairs (l.take i) ++ [((i : Int), l[i])] := by
  rw [List.take_succ_eq_append_getElem h]
  have : (l.take i).length = i := by rw [List.length_take]; omega
  simp only [pairs, List.zipIdx_append, List.map_append, this, Nat.zero_add]
  rfl
def cellsP (l : List (Int × Int)) : List Value := l.flatMap fun q => [.int .i64 q.1, .int .i64 q.2]
theorem cellsP_snoc (l : List (Int × Int)) (q : Int × Int) : cellsP (l ++ [q]) = cellsP l ++ [.int .i64 q.1, .int .i64 q.2] := by simp [cellsP]
theorem cellsP_get : ∀ (l : List (Int × Int)) (i : Nat) (h : i < l.length), (cellsP l)[i * 2]? = some (.int .i64 l[i].1) ∧ (cellsP l)[i * 2 + 1]? = some (.int .i64 l[i].2)
  | [], i, h => by simp at h
  | q :: l, 0, _ => by simp [cellsP]
  | q :: l, i + 1, h => by
    have := cellsP_get l i (by simpa using h)
    rw [show (i + 1) * 2 + 1 = (i * 2 + 1) + 2 by omega, show (i + 1) * 2 = i * 2 + 2 by omega]
    simpa [cellsP] using this
theorem cellsP_length (l : List (Int × Int)) : (cellsP l).length = l.length * 2 := by
  induction l with
  | nil => rfl
  | cons q l ih => simp [cellsP] at *; omega

/-- The places so far: the header at the block p. -/
structure HeadAt (w0 : World) (p : Nat) (l : List (Int × Int)) (v : Value) (wr : World) : Prop where
  own : wr.ownsRow (p + 1) 282 2 v l.length (cellsP l)
  head : wr.cell? ⟨p, 0, none⟩ = some v
  free : ∀ o, wr.frozen? ⟨p, o, none⟩ = false
  below : Below p w0 wr
  size : p < wr.heap.size

theorem HeadAt.heap {w0 : World} {p : Nat} {l : List (Int × Int)} {v : Value} {wr : World} (h : HeadAt w0 p l v wr) (hl : 0 < l.length) : ∃ g c, p < g ∧ HeapAt p g c l wr := by
  have hown := h.own
  rcases hown.2 with ⟨_, hn⟩ | ⟨g, cap, cur, hv, hb, hg, hnc, hcm, hcs, htake⟩
  · omega
  · subst hv
    refine ⟨g, cap, by omega, h.head, h.free, by omega, ⟨hnc, by simpa [maxLen] using hcm⟩, fun i hi => ?_, fun o => hown.frozenAt o⟩
    have := cellsP_get l i hi
    exact ⟨(hown.cellAt (i * 2) (by omega)).trans this.1, (hown.cellAt (i * 2 + 1) (by omega)).trans this.2⟩

theorem place_info : (Tryz.prog.info? 282).map (fun i => (i.zero, i.size, i.bytes)) = some (some (.agg #[.int .i64 0, .int .i64 0]), 2, 16) := by kernel_rfl

theorem cell_two_newP (w : World) (x y : Value) (t : TypeId) : ∀ j u, [x, y][j]? = some u → (w.alloc (.cells #[x, y] t)).cell? ((⟨w.heap.size, 0, none⟩ : Addr).add j) = some u := by
  intro j u hj
  match j, hj with
  | 0, hj => simp at hj; subst hj; simp [Addr.add]
  | 1, hj => simp at hj; subst hj; simp [Addr.add]

theorem two_oneCell (x y : Int) : ∀ u ∈ [Value.int .i64 x, .int .i64 y], u.oneCell' = true := by
  intro u hu
  simp only [List.mem_cons, List.not_mem_nil, or_false] at hu
  rcases hu with rfl | rfl <;> rfl
theorem _root_.Go.World.ownsRow.slice {w : World} {base : Nat} {e : TypeId} {size : Nat} {v : Value} {n : Nat} {xs : List Value} (h : w.ownsRow base e size v n xs) (hn : 0 < n) : ∃ g cap, v = .slice (some ⟨g, 0, none⟩) n cap := by
  rcases h.2 with ⟨_, hn'⟩ | ⟨g, cap, cur, hv, _⟩
  · omega
  · exact ⟨g, cap, hv⟩
theorem HeadAt.start (w : World) (t : TypeId) (l : List Int) : HeadAt w w.heap.size (pairs (l.take 0)) (.slice none 0 0) (w.alloc (.cells #[.slice none 0 0] t)) :=
  ⟨World.ownsRow_nil _ _ _ _, by simp, fun o => by simp, (Below.refl _ _).alloc (Nat.le_refl _) _, by simp⟩
theorem HeadAt.old {w0 : World} {p : Nat} {l : List (Int × Int)} {v : Value} {wr : World} (h : HeadAt w0 p l v wr) (q : Int × Int) (t : TypeId) {v' : Value} {w1 : World}
    (_hown : w1.ownsRow (p + 1) 282 2 v' (l.length + 1) (cellsP l ++ [.int .i64 q.1, .int .i64 q.2])) (hgrow : (wr.alloc (.cells #[.int .i64 q.1, .int .i64 q.2] t)).grownBy w1 v.ownBlock) :
    w1.cell? ⟨p, 0, none⟩ = some v ∧ w1.frozen? ⟨p, 0, none⟩ = false := by
  have hne : v.ownBlock ≠ some p := fun e => by have := (h.own.lt p e).1; omega
  have hp := h.size
  have hblk : w1.heap[p]? = wr.heap[p]? := (hgrow.block p (by simp; omega) (fun e => hne e.symm)).trans (Below.heap_alloc _ _ _ hp)
  exact ⟨(World.cell?_of_block hblk).trans h.head, (World.frozen?_of_block hblk).trans (h.free 0)⟩
theorem HeadAt.more {w0 : World} {p : Nat} {l : List (Int × Int)} {v : Value} {wr : World} (h : HeadAt w0 p l v wr) (q : Int × Int) (t : TypeId) {v' : Value} {w1 : World}
    (hown : w1.ownsRow (p + 1) 282 2 v' (l.length + 1) (cellsP l ++ [.int .i64 q.1, .int .i64 q.2])) (hgrow : (wr.alloc (.cells #[.int .i64 q.1, .int .i64 q.2] t)).grownBy w1 v.ownBlock) :
    HeadAt w0 p (l ++ [q]) v' (w1.setCell ⟨p, 0, none⟩ v') := by
  have hne : v.ownBlock ≠ some p := fun e => by have := (h.own.lt p e).1; omega
  have hne' : v'.ownBlock ≠ some p := fun e => by have := (hown.lt p e).1; omega
  have hp := h.size
  have hblk : w1.heap[p]? = wr.heap[p]? := (hgrow.block p (by simp; omega) (fun e => hne e.symm)).trans (Below.heap_alloc _ _ _ hp)
  have hcp : w1.cell? ⟨p, 0, none⟩ = some v := (World.cell?_of_block hblk).trans h.head
  have hsz : p < w1.heap.size := Nat.lt_of_lt_of_le hp (Nat.le_trans (by simp) hgrow.size)
  refine ⟨?_, World.cell?_setCell_same _ _ _ hcp, fun o => ?_, ?_, by rw [World.size_setCell]; exact hsz⟩
  · rw [cellsP_snoc, List.length_append, List.length_singleton]
    exact hown.kept (row := some p) ⟨rfl, rfl, rfl, by simp, fun k _ hk => Below.heap_setCell _ _ _ _ (fun e => hk (by rw [e]))⟩ (Or.inr hne')
  · rw [World.frozen?_setCell]
    exact (World.frozen?_of_block hblk).trans (h.free o)
  · have hb1 : Below p wr w1 := ⟨hgrow.os, hgrow.tape, hgrow.output, Nat.le_trans (by simp) hgrow.size, fun k hk => (hgrow.block k (by simp; omega) (fun e => by have := (h.own.lt k e.symm).1; omega)).trans (Below.heap_alloc _ _ _ (by omega))⟩
    exact h.below.trans (hb1.trans ⟨rfl, rfl, rfl, by simp, fun k hk => Below.heap_setCell _ _ _ _ (by show k ≠ p; omega)⟩)

set_option maxHeartbeats 1000000 in
theorem heaped_any (ao : Option Addr) (cap : Nat) (l : List Int) (w : World) (hs : IntsAt w ao l) (h0 : 0 < l.length) (hl : l.length ≤ 1000000) :
    Calls Tryz.prog 177 #[.slice ao l.length cap] w fun e w' => ∃ p g c, e = .returned (.pointer (some ⟨p, 0, none⟩)) ∧ HeapAt p g c (initL l.length (l.length / 2) (pairs l)) w' ∧ w.heap.size ≤ p ∧ p < g ∧ Below w.heap.size w w' := by
  obtain ⟨b, off, rfl, hb, hc⟩ := hs.at h0
  obtain ⟨i0, hi, hz0, hz1, hz2⟩ := info_parts place_info
  go_enter Tryz.func177, Tryz.ntmps177
  go_wp2_with fail
  go_loopw [8] (fun i wr => ∃ (k : Nat) (v : Value), i = .int .i64 k ∧ k ≤ l.length ∧ HeadAt w w.heap.size (pairs (l.take k)) v wr) (fun i _ => l.length - (intOf i).toNat)
  case atStart => exact ⟨0, _, rfl, Nat.zero_le _, HeadAt.start _ _ _⟩
  case round =>
    obtain ⟨k, v, rfl, hk, hH⟩ := hrel
    have hlen : (pairs (l.take k)).length = k := by rw [pairs_length, List.length_take]; omega
    have hsz := hH.size
    by_cases hkl : k < l.length
    · have hck := hH.below.cell (p := ⟨b, off + k * 1 + 0, none⟩) hb
      rw [hc k hkl 0 _ rfl, Nat.mul_one, Nat.add_zero] at hck
      have hk0 : (0 : Int) ≤ (k : Int) := Int.natCast_nonneg _
      have hk1 : (k : Int) < (l.length : Int) := by omega
      have hhd := hH.head
      have hfr := hH.free 0
      have hsn := Lib.hid (pairs_snoc l k hkl)
      go_wp2_with (at_builtin; refine wpList_append_own_at _ rfl _ _ 288 rfl (w.heap.size + 1) 282 i0 (.agg #[.int .i64 0, .int .i64 0]) 2 16 Tryz.underlying288 hi hz0 hz1 hz2 rfl (by decide) v (pairs (l.take k)).length _ rfl (hH.own.alloc _) ⟨wr.heap.size, 0, none⟩ 1 1 [.int .i64 k, .int .i64 l[k]] rfl rfl (cell_two_newP _ _ _ _) (two_oneCell _ _) (by rw [hlen]; unfold maxLen; omega) (by rw [hlen]; omega) (by simp; omega) ?_; intro v' w1 hown' hgrow hnil hat; have hM := hH.more (k, l[k]) _ hown' hgrow; obtain ⟨hw1c, hw1f⟩ := hH.old (k, l[k]) _ hown' hgrow; rcases hown'.slice (by omega) with ⟨g', c', rfl⟩; rw [hlen] at hM)
      go_roundw
      case rel => exact ⟨k + 1, _, by go_num, by omega, by rw [hsn.out]; exact hM⟩
      case measure => simp [intOf]; omega
    · have hk' : k = l.length := by omega
      subst hk'
      rw [List.take_length] at hH hlen
      obtain ⟨g, c, hpg, HH⟩ := hH.heap (by omega)
      go_wp2_with fail
      have hcall := init_any _ g c _ wr HH (by omega)
      rw [pairs_length] at hcall
      refine hcall.mono ?_
      rintro e w1 ⟨rfl, H1, hO1⟩
      go_wp2_with fail
      go_ret
      exact ⟨_, g, c, rfl, H1, Nat.le_refl _, hpg, hH.below.trans (hO1.below (Nat.le_refl _) (by omega) (by omega))⟩

end Go.Proofs.YtafciefjlkdecaaGreat

namespace Go.Proofs.YtafciefjlkdecaaGreat
open Go.RowKit

theorem HeapAt.blocks {p g cap : Nat} {l : List (Int × Int)} {w w' : World} (h : HeapAt p g cap l w) (hp : w'.heap[p]? = w.heap[p]?) (hg : w'.heap[g]? = w.heap[g]?) : HeapAt p g cap l w' :=
  ⟨(World.cell?_of_block hp).trans h.head, fun o => (World.frozen?_of_block hp).trans (h.free o), h.ne, h.fits,
    fun i hi => ⟨(World.cell?_of_block hg).trans (h.cells i hi).1, (World.cell?_of_block hg).trans (h.cells i hi).2⟩, fun o => (World.frozen?_of_block hg).trans (h.gfree o)⟩
theorem ownsRow_only2 {p g : Nat} {w w' : World} {base : Nat} {e : TypeId} {size : Nat} {v : Value} {n : Nat} {xs : List Value} (h : w.ownsRow base e size v n xs) (hO : Only2 p g w w') (hp : v.ownBlock ≠ some p) (hg : v.ownBlock ≠ some g) : w'.ownsRow base e size v n xs := by
  refine ⟨h.1, ?_⟩
  rcases h.2 with hn | ⟨b, cap, cur, rfl, hb, hgg, rest⟩
  · exact .inl hn
  · refine .inr ⟨b, cap, cur, rfl, hb, ?_, rest⟩
    rw [hO.block b (Array.getElem?_eq_some_iff.1 hgg).1 (fun e => hp (by simp [Value.ownBlock, e])) (fun e => hg (by simp [Value.ownBlock, e]))]
    exact hgg

/-- What is taken off a heap: one after another, so many at most. -/
def takeTop : Nat → List (Int × Int) → List Int
  | 0, _ => []
  | f + 1, h =>
    match (popL h).getLast? with
    | none => []
    | some x => x.1 :: takeTop f (popL h).dropLast
theorem takeTop_go {f : Nat} {h r : List (Int × Int)} {x : Int × Int} (e : popL h = r ++ [x]) : takeTop (f + 1) h = x.1 :: takeTop f r := by
  rw [takeTop, e]; simp
theorem takeTop_nil (f : Nat) : takeTop f [] = [] := by
  cases f with
  | zero => rfl
  | succ f =>
    have : popL [] = [] := List.eq_nil_of_length_eq_zero (by rw [popL_length]; rfl)
    rw [takeTop, this]; rfl
theorem popL_some {h : List (Int × Int)} (h0 : 0 < h.length) : ∃ r x, popL h = r ++ [x] ∧ r.length + 1 = h.length := by
  have hl := popL_length h
  rcases List.eq_nil_or_concat (popL h) with e | ⟨r, x, e⟩
  · rw [e] at hl; simp at hl; omega
  · rw [List.concat_eq_append] at e
    refine ⟨r, x, e, ?_⟩
    rw [e] at hl; simpa using hl

def intsV (l : List Int) : List Value := l.map fun x => .int .i64 x
theorem intsV_snoc (l : List Int) (x : Int) : intsV (l ++ [x]) = intsV l ++ [.int .i64 x] := by simp [intsV]
def sliceLen : Value → Nat
  | .slice _ n _ => n
  | _ => 0

/-- The heap and what is out of it. -/
structure OutAt (w0 : World) (p g c : Nat) (h : List (Int × Int)) (r : List Int) (v : Value) (wr : World) : Prop where
  own : wr.ownsRow w0.heap.size 3 1 v r.length (intsV r)
  heap : HeapAt p g c h wr
  pa : v.ownBlock ≠ some p
  ga : v.ownBlock ≠ some g
  below : Below w0.heap.size w0 wr
  plt : p < wr.heap.size
  glt : g < wr.heap.size
  len : sliceLen v = r.length

theorem int_info : (Tryz.prog.info? 3).map (fun i => (i.zero, i.size, i.bytes)) = some (some (.int .i64 0), 1, 8) := by kernel_rfl

theorem OutAt.start {w0 : World} {p g c : Nat} {h : List (Int × Int)} {w : World} (hH : HeapAt p g c h w) (hb : Below w0.heap.size w0 w) (hg : g < w.heap.size) : OutAt w0 p g c h [] (.slice none 0 0) w :=
  ⟨World.ownsRow_nil _ _ _ _, hH, by simp [Value.ownBlock], by simp [Value.ownBlock], hb, World.block_lt_of_cell? w _ hH.head, hg, rfl⟩

theorem OutAt.form {w0 : World} {p g c : Nat} {h : List (Int × Int)} {r : List Int} {v : Value} {wr : World} (hO : OutAt w0 p g c h r v wr) : ∃ ao c', v = .slice ao r.length c' := by
  rcases hO.own.2 with ⟨e, hn⟩ | ⟨g, cap, cur, hv, _⟩
  · exact ⟨none, 0, by rw [e, hn]⟩
  · exact ⟨_, _, hv⟩

theorem OutAt.popped {w0 : World} {p g c : Nat} {h h' : List (Int × Int)} {r : List Int} {v : Value} {wr w1 : World} (hO : OutAt w0 p g c h r v wr) (H : HeapAt p g c h' w1) (k : Only2 p g wr w1) (hp : w0.heap.size ≤ p) (hg : w0.heap.size ≤ g) : OutAt w0 p g c h' r v w1 :=
  ⟨ownsRow_only2 hO.own k hO.pa hO.ga, H, hO.pa, hO.ga, hO.below.trans (k.below hp hg hO.below.size), Nat.lt_of_lt_of_le hO.plt k.size, Nat.lt_of_lt_of_le hO.glt k.size, hO.len⟩
theorem OutAt.kept {w0 : World} {p g c : Nat} {h : List (Int × Int)} {r : List Int} {v : Value} {wr w1 : World} (hO : OutAt w0 p g c h r v wr) (k : Below wr.heap.size wr w1) : OutAt w0 p g c h r v w1 := by
  have k2 : Only2 p g wr w1 := ⟨k.os, k.tape, k.output, k.size, fun i hi _ _ => k.block i hi⟩
  exact ⟨ownsRow_only2 hO.own k2 hO.pa hO.ga, hO.heap.blocks (k.block p hO.plt) (k.block g hO.glt), hO.pa, hO.ga, hO.below.trans (k.mono hO.below.size), Nat.lt_of_lt_of_le hO.plt k.size, Nat.lt_of_lt_of_le hO.glt k.size, hO.len⟩
theorem OutAt.more {w0 : World} {p g c : Nat} {h : List (Int × Int)} {r : List Int} {v v' : Value} {wr w1 : World} (hO : OutAt w0 p g c h r v wr) (x : Int) (hown : w1.ownsRow w0.heap.size 3 1 v' (r.length + 1) (intsV r ++ [.int .i64 x])) (hgrow : wr.grownBy w1 v.ownBlock)
    (hat : v'.ownBlock = v.ownBlock ∨ v'.ownBlock = some wr.heap.size) : OutAt w0 p g c h (r ++ [x]) v' w1 := by
  have h1 := hO.plt
  have h2 := hO.glt
  refine ⟨by rw [intsV_snoc, List.length_append, List.length_singleton]; exact hown, hO.heap.blocks (hgrow.block p h1 (fun e => hO.pa e.symm)) (hgrow.block g h2 (fun e => hO.ga e.symm)), ?_, ?_, ?_, Nat.lt_of_lt_of_le h1 hgrow.size, Nat.lt_of_lt_of_le h2 hgrow.size, ?_⟩
  · rcases hat with e | e <;> rw [e]
    · exact hO.pa
    · intro e; simp at e; omega
  · rcases hat with e | e <;> rw [e]
    · exact hO.ga
    · intro e; simp at e; omega
  · exact hO.below.trans ⟨hgrow.os, hgrow.tape, hgrow.output, hgrow.size, fun k hk => hgrow.block k (Nat.lt_of_lt_of_le hk hO.below.size) (fun e => by have := (hO.own.lt k e.symm).1; omega)⟩
  · obtain ⟨g', c', rfl⟩ := hown.slice (by omega)
    simp [sliceLen]

@[go_sem] theorem as_place (v : Value) (w : World) : (Instr.typeAssert (.iface 282 v) 20 282 true).run Tryz.prog w = .ok (.tuple #[v, .bool true]) w := by kernel_rfl

theorem cell_one_new2 (w : World) (o : Obj) (x : Value) (t : TypeId) : ∀ j u, [x][j]? = some u → ((w.alloc o).alloc (.cells #[x] t)).cell? ((⟨w.heap.size + 1, 0, none⟩ : Addr).add j) = some u := by
  have h := cell_one_new (w.alloc o) x t
  rw [show (w.alloc o).heap.size = w.heap.size + 1 from by simp] at h
  exact h

set_option maxRecDepth 100000 in
set_option maxHeartbeats 2000000 in
theorem top_any (ao : Option Addr) (cap : Nat) (l : List Int) (most : Int) (w : World) (hs : IntsAt w ao l) (h0 : 0 < l.length) (hl : l.length ≤ 1000000) :
    Calls Tryz.prog 159 #[.slice ao l.length cap, .int .i64 most] w fun e w' => ∃ v, e = .returned v ∧ w'.ownsRow w.heap.size 3 1 v (takeTop most.toNat (initL l.length (l.length / 2) (pairs l))).length (intsV (takeTop most.toNat (initL l.length (l.length / 2) (pairs l)))) ∧ sliceLen v = (takeTop most.toNat (initL l.length (l.length / 2) (pairs l))).length ∧ Below w.heap.size w w' := by
  obtain ⟨i0, hi, hz0, hz1, hz2⟩ := info_parts int_info
  generalize hL : initL l.length (l.length / 2) (pairs l) = L
  have hLl : L.length = l.length := by rw [← hL, initL_length, pairs_length]
  go_enter Tryz.func159, Tryz.ntmps159
  go_wp2_with fail
  refine (heaped_any ao cap l w hs h0 hl).mono ?_
  rintro e w1 ⟨p, g, c, rfl, hH, hp, hpg, hb1⟩
  rw [hL] at hH
  have hg1 : g < w1.heap.size := World.block_lt_of_cell? w1 _ (hH.cells 0 (by omega)).1
  go_wp2_with fail
  go_loopw [6] (fun j wr => ∃ (h : List (Int × Int)) (r : List Int), h.length + r.length = l.length ∧ Hid (r ++ takeTop (most.toNat - r.length) h = takeTop most.toNat L) ∧ OutAt w p g c h r j wr) (fun j _ => l.length - sliceLen j)
  case atStart => exact ⟨L, [], by simpa using hLl, Lib.hid (by simp), OutAt.start hH hb1 hg1⟩
  case round =>
    obtain ⟨h, r, hhr, hT, hO⟩ := hrel
    obtain ⟨ao', c', rfl⟩ := hO.form
    have hd := hO.heap.head
    have hr0 : (0 : Int) ≤ (r.length : Int) := Int.natCast_nonneg _
    by_cases hh : 0 < h.length
    · have hh' : (0 : Int) < (h.length : Int) := by omega
      by_cases hm : (r.length : Int) < most
      · obtain ⟨h', x, hpl, hxl⟩ := popL_some hh
        have hpl' := Lib.hid hpl
        go_wp2_with fail
        refine (places_len _ _ _ _).mono ?_
        rintro e w2 ⟨rfl, rfl⟩
        go_wp2_with fail
        have hc := pop_any p g c h wr hO.heap (by omega) hh h' x hpl'.out
        refine hc.mono ?_
        rintro e w2 ⟨rfl, H2, hO2⟩
        clear hc
        have O2 := hO.popped H2 hO2 hp (by omega)
        have hrl : r.length < 1000000 := by omega
        have O3 := O2.kept (w1 := w2.alloc (.cells #[.int .i64 x.1, .int .i64 x.2] 282)) ((Below.refl _ _).alloc (Nat.le_refl _) _)
        have hBS : w.heap.size ≤ ((w2.alloc (.cells #[.int .i64 x.1, .int .i64 x.2] 282)).alloc (.cells #[.int .i64 x.1] 3)).heap.size := by have := O2.below.size; simp; omega
        go_wp2_with (at_builtin; refine wpList_append_own_at _ rfl _ _ 55 rfl w.heap.size 3 i0 (.int .i64 0) 1 8 Tryz.underlying55 hi hz0 hz1 hz2 rfl (by decide) _ r.length _ rfl (O3.own.alloc _) ⟨w2.heap.size + 1, 0, none⟩ 1 1 [.int .i64 x.1] rfl rfl (cell_one_new2 _ _ _ _) (by intro u hu; simp at hu; subst hu; rfl) (by unfold maxLen; omega) (by omega) hBS ?_; intro v' w4 hown' hgrow hnil hat; have O4 := (O3.kept ((Below.refl _ _).alloc (Nat.le_refl _) _)).more x.1 hown' hgrow hat; rcases hown'.slice (by omega) with ⟨g', c'', rfl⟩)
        go_roundw
        case rel =>
          refine ⟨h', r ++ [x.1], by rw [List.length_append, List.length_singleton]; omega, Lib.hid ?_, O4⟩
          have hT' := hT.out
          obtain ⟨f, hf⟩ : ∃ f, most.toNat - r.length = f + 1 := ⟨most.toNat - r.length - 1, by omega⟩
          rw [hf, takeTop_go hpl'.out] at hT'
          rw [List.length_append, List.length_singleton, List.append_assoc, List.singleton_append, show most.toNat - (r.length + 1) = f by omega]
          exact hT'
        case measure => simp only [sliceLen]; omega
      · go_wp2_with fail
        refine (places_len _ _ _ _).mono ?_
        rintro e w2 ⟨rfl, rfl⟩
        have hT' := hT.out
        rw [show most.toNat - r.length = 0 by omega, takeTop, List.append_nil] at hT'
        subst hT'
        go_wp2_with fail
        go_ret
        exact ⟨_, rfl, hO.own, hO.len, hO.below⟩
    · have h0' : h.length = 0 := by omega
      obtain rfl := List.eq_nil_of_length_eq_zero h0'
      have hT' := hT.out
      rw [takeTop_nil, List.append_nil] at hT'
      subst hT'
      go_wp2_with fail
      refine (places_len _ _ _ _).mono ?_
      rintro e w2 ⟨rfl, rfl⟩
      go_wp2_with fail
      go_ret
      exact ⟨_, rfl, hO.own, hO.len, hO.below⟩

set_option maxHeartbeats 1000000 in
theorem init_none (p : Nat) (w : World) (h : w.cell? ⟨p, 0, none⟩ = some (.slice none 0 0)) :
    Calls Tryz.prog 184 #[.iface 279 (.pointer (some ⟨p, 0, none⟩))] w fun e w' => e = .returned (.tuple #[]) ∧ w = w' := by
  have hLen := fun k a w => by_Len k a w
  go_enter Tryz.func184, Tryz.ntmps184
  go_wp2_with (go_at_call 178; refine (places_len _ _ _ _).mono ?_; rintro e w1 ⟨rfl, rfl⟩)
  go_loopw [3] (fun i wr => i = .int .i64 (-1) ∧ wr = w) (fun i _ => 0)
  case atStart => exact ⟨rfl, rfl⟩
  case round =>
    obtain ⟨rfl, rfl⟩ := hrel
    go_wp2_with fail
    go_end0
    exact ⟨rfl, rfl⟩
set_option maxHeartbeats 1000000 in
theorem heaped_none (ao : Option Addr) (cap : Nat) (w : World) :
    Calls Tryz.prog 177 #[.slice ao 0 cap] w fun e w' => e = .returned (.pointer (some ⟨w.heap.size, 0, none⟩)) ∧ w'.cell? ⟨w.heap.size, 0, none⟩ = some (.slice none 0 0) ∧ Below w.heap.size w w' := by
  go_enter Tryz.func177, Tryz.ntmps177
  go_wp2_with fail
  go_loopw [8] (fun i wr => i = .int .i64 0 ∧ wr = w.alloc (.cells #[.slice none 0 0] 288)) (fun i _ => 0)
  case atStart => exact ⟨rfl, rfl⟩
  case round =>
    obtain ⟨rfl, rfl⟩ := hrel
    go_wp2_with fail
    refine (init_none _ _ (by simp)).mono ?_
    rintro e w1 ⟨rfl, rfl⟩
    go_wp2_with fail
    go_ret
    exact ⟨rfl, by simp, (Below.refl _ _).alloc (Nat.le_refl _) _⟩
set_option maxHeartbeats 1000000 in
theorem top_none (ao : Option Addr) (cap : Nat) (most : Int) (w : World) :
    Calls Tryz.prog 159 #[.slice ao 0 cap, .int .i64 most] w fun e w' => e = .returned (.slice none 0 0) ∧ Below w.heap.size w w' := by
  go_enter Tryz.func159, Tryz.ntmps159
  go_wp2_with fail
  refine (heaped_none ao cap w).mono ?_
  rintro e w1 ⟨rfl, hc1, hb1⟩
  go_wp2_with fail
  go_loopw [6] (fun i wr => i = .slice none 0 0 ∧ wr = w1) (fun i _ => 0)
  case atStart => exact ⟨rfl, rfl⟩
  case round =>
    obtain ⟨rfl, rfl⟩ := hrel
    go_wp2_with fail
    refine (places_len _ _ _ _).mono ?_
    rintro e w2 ⟨rfl, rfl⟩
    go_wp2_with fail
    go_ret
    exact ⟨rfl, hb1⟩

/-- The order of the first ones of all counts. -/
def topL (l : List Int) (most : Nat) : List Int := takeTop most (initL l.length (l.length / 2) (pairs l))
theorem topL_nil (most : Nat) : topL [] most = [] := takeTop_nil most
/-- A row of the call's own that reads as ints. -/
structure Out (B : Nat) (v : Value) (r : List Int) (w : World) : Prop where
  own : w.ownsRow B 3 1 v r.length (intsV r)
  len : sliceLen v = r.length
theorem Out.form {B : Nat} {v : Value} {r : List Int} {w : World} (h : Out B v r w) : ∃ ao c, v = .slice ao r.length c ∧ IntsAt w ao r ∧ (r.length = 0 → v = .slice ao 0 c) ∧ ∀ a, ao = some a → B ≤ a.block := by
  rcases h.own.2 with ⟨e, hn⟩ | ⟨g, cap, cur, hv, hb, hg, _⟩
  · exact ⟨none, 0, by rw [e, hn], Or.inl (List.eq_nil_of_length_eq_zero hn), fun _ => e, fun a e => by simp at e⟩
  · subst hv
    refine ⟨_, cap, rfl, Or.inr ⟨g, 0, rfl, (Array.getElem?_eq_some_iff.1 hg).1, fun i hi j x hx => ?_⟩, fun h0 => by rw [h0], fun a e => by simp at e; subst e; exact hb⟩
    have hj : j = 0 := by
      have := (List.getElem?_eq_some_iff.1 hx).1
      simpa using this
    subst hj
    rw [show 0 + i * 1 + 0 = i by omega, h.own.cellAt i (by omega)]
    simpa [intsV, hi] using hx

theorem top_all (ao : Option Addr) (cap : Nat) (l : List Int) (most : Int) (w : World) (hs : IntsAt w ao l) (hl : l.length ≤ 1000000) :
    Calls Tryz.prog 159 #[.slice ao l.length cap, .int .i64 most] w fun e w' => ∃ v, e = .returned v ∧ Out w.heap.size v (topL l most.toNat) w' ∧ Below w.heap.size w w' := by
  by_cases h0 : 0 < l.length
  · refine (top_any ao cap l most w hs h0 hl).mono ?_
    rintro e w' ⟨v, rfl, h1, h2, h3⟩
    exact ⟨v, rfl, ⟨h1, h2⟩, h3⟩
  · obtain rfl : l = [] := List.eq_nil_of_length_eq_zero (by omega)
    refine (top_none ao cap most w).mono ?_
    rintro e w' ⟨rfl, h1⟩
    rw [topL_nil]
    exact ⟨_, rfl, ⟨World.ownsRow_nil _ _ _ _, rfl⟩, h1⟩

set_option maxHeartbeats 1000000 in
theorem fullest_all (ao : Option Addr) (cap : Nat) (l : List Int) (w : World) (hs : IntsAt w ao l) (hl : l.length ≤ 1000000) (k : Nat) (hk : topL l 1 = [(k : Int)]) (hkl : k < l.length) :
    Calls Tryz.prog 125 #[.slice ao l.length cap] w fun e w' => e = .returned (if l[k] < 1 then .tuple #[.int .i64 0, .bool false] else .tuple #[.int .i64 k, .bool true]) ∧ Below w.heap.size w w' := by
  go_enter Tryz.func125, Tryz.ntmps125
  go_wp2_with fail
  refine (top_all ao cap l _ w hs hl).mono ?_
  rintro e w1 ⟨v, rfl, h1, h2⟩
  rw [show (1 : Int).toNat = 1 from rfl, hk] at h1
  obtain ⟨ao1, c1, rfl, hr1, _, _⟩ := h1.form
  obtain ⟨b, off, rfl, hb, hc⟩ := hr1.at (by simp)
  have hc0 := hc 0 (by simp) 0 _ rfl
  have hs1 := hs.kept h2 (Nat.le_refl _)
  obtain ⟨b2, off2, rfl, hb2, hc2⟩ := hs1.at (by omega)
  have hck := hc2 k hkl 0 _ rfl
  have hk0 : (0 : Int) ≤ (k : Int) := Int.natCast_nonneg _
  have hk1 : (k : Int) < (l.length : Int) := by omega
  simp only [List.getElem_cons_zero, Nat.add_zero, Nat.mul_one] at hc0 hck
  by_cases h : l[k] < 1
  · go_wp2_with fail
    go_ret2
    exact ⟨rfl, h2⟩
  · go_wp2_with fail
    go_ret2
    exact ⟨rfl, h2⟩
set_option maxHeartbeats 1000000 in
theorem fullest_none (ao : Option Addr) (cap : Nat) (w : World) :
    Calls Tryz.prog 125 #[.slice ao 0 cap] w fun e w' => e = .returned (.tuple #[.int .i64 0, .bool false]) ∧ Below w.heap.size w w' := by
  go_enter Tryz.func125, Tryz.ntmps125
  go_wp2_with fail
  refine (top_none ao cap 1 w).mono ?_
  rintro e w1 ⟨rfl, h2⟩
  go_wp2_with fail
  go_ret2
  exact ⟨rfl, h2⟩

end Go.Proofs.YtafciefjlkdecaaGreat
