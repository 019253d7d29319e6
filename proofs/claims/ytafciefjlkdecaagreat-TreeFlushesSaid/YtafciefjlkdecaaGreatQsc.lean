/-
  Nodes as values: children and messages; the walks of (node.Node).Child, Range, and of the document's ChildOf. The walks of layer 19 (pick) below the heap: which is ahead, the swap, the last one, how many; how a call through heap.Interface finds them.   The heap of layer 19 in memory, and the walks of its swap and its last one.   The walk of container/heap's down over the places.   The walks of container/heap's Init and Pop over the places.   The walk of pick.heaped: the counts as a heap.   The walk of pick.Top. The plain law of layer 19: what is taken off a heap is sorted.   The walks of treenailref19: ahead and Order.   What the walk of PickOrders needs; the walk where there is no count.   The plain law of the first ones: each is a place, no two alike, and none that is left out is ahead of one of them; the first one has at least its share. What texts of another seat took from texts that this one has not. The walks of flush.Counts, and of the document's Counts. The walk of flush.Step. The walk of flush.Halves. The walks of rec.Text, (buf.Buffer).Text at any updates: their bytes, or the first error. The bytes of nodes: plain laws, no program in sight. The walks of env's pointers as bytes, of a child's text, and of a builder's WriteByte. The walks of a child's text, and of a node's children and Right. The walks of a node's Right and Text.
-/
import Derived.Deep.DeepCutAuto
import Derived.BigQuiet
import Derived.Deep.QuietTactic
import Derived.BigRegion
import Derived.Maps.AppendAt
import Derived.OwnWalk
import Derived.Deep.RegionWith
import Derived.Deep.RegionHeld3
import Derived.Deep.DrawnRows
import Derived.Laws.AppendOwnNone
import Derived.Deep.RegionLawGrows
import Derived.Deep.DeepMust
import Derived.Test.YtafciefjlkdecaaGreatQsb
set_option maxRecDepth 100000
set_option maxHeartbeats 16000000
namespace Go.Proofs.YtafciefjlkdecaaGreat
open Go.RowKit
attribute [local go_sem ↓] Go.wp_at_zero Go.wp_at_succ
theorem addr_ne {b o b' o' : Nat} (h : b ≠ b' ∨ o ≠ o') : (⟨b, o, none⟩ : Addr) ≠ ⟨b', o', none⟩ := fun e => by
 injection e with e1 e2
 omega
theorem SlAt.setAt {α : Type} {enc : α → List Value} {k : Nat} {w : World} {ao : Option Addr} {l : List α} (h : SlAt enc k w ao l) {p : Addr} {a : Option Addr} {n c : Nat} (hp : w.cell? p = some (.slice a n c)) (hne : ∀ x ∈ l, Value.slice a n c ∉ enc x) (u : Value) : SlAt enc k (w.setCell p u) ao l := by
 rcases h with rfl | ⟨b, off, rfl, hb, hc⟩
 ·exact Or.inl rfl
 ·refine Or.inr ⟨b, off, rfl, by rw [World.size_setCell]; exact hb, fun i hi j x hx => ?_⟩
  have hcell := hc i hi j x hx
  rw [World.cell?_setCell_other]
  ·exact hcell
  ·intro e
   rw [← e, hp] at hcell
   have hxe : x = .slice a n c := (Option.some.inj hcell).symm
   subst hxe
   exact hne _ (List.getElem_mem hi) (List.mem_of_getElem? hx)
theorem SlC.setAt {w : World} {v : Value} {l : List Chd} (h : SlC w v l) {p : Addr} {a : Option Addr} {n c : Nat} (hp : w.cell? p = some (.slice a n c)) (u : Value) : SlC (w.setCell p u) v l := by
 obtain ⟨ao, c', rfl, hs, h1, h2, h3⟩ := h
 exact ⟨ao, c', rfl, hs.setAt hp (fun x _ => by simp [Chd.cells]) u, h1, h2, h3⟩
theorem SlU.setAt {w : World} {v : Value} {l : List Upd} (h : SlU w v l) {p : Addr} {a : Option Addr} {n c : Nat} (hp : w.cell? p = some (.slice a n c)) (u : Value) : SlU (w.setCell p u) v l := by
 obtain ⟨ao, c', rfl, hs, h1, h2, h3⟩ := h
 exact ⟨ao, c', rfl, hs.setAt hp (fun x _ => by simp [Upd.cells]) u, h1, h2, h3⟩
theorem BoxU.setAt {w : World} {v : Value} {l : List Upd} (h : BoxU w v l) {p : Addr} {a : Option Addr} {n c : Nat} (hp : w.cell? p = some (.slice a n c)) (u : Value) : BoxU (w.setCell p u) v l := by
 obtain ⟨s, rfl, hs⟩ := h
 exact ⟨_, rfl, hs.setAt hp u⟩
structure NodeAt (w : World) (v : Value) (cs : List Chd) (us : List Upd) : Prop where
 form : ∃ a b x y, v = .agg #[.slice a cs.length x, .slice b us.length y] ∧ SlC w (.slice a cs.length x) cs ∧ SlU w (.slice b us.length y) us
theorem NodeAt.kept {w w' : World} {v : Value} {cs : List Chd} {us : List Upd} {B : Nat} (h : NodeAt w v cs us) (hb : Below B w w') (hB : w.heap.size ≤ B) : NodeAt w' v cs us := by
 obtain ⟨a, b, x, y, rfl, h1, h2⟩ := h
 exact ⟨a, b, x, y, rfl, h1.kept hb hB, h2.kept hb hB⟩
theorem NodeAt.mk' {w : World} {a b : Option Addr} {x y n m : Nat} {cs : List Chd} {us : List Upd} (h1 : SlC w (.slice a n x) cs) (h2 : SlU w (.slice b m y) us) : NodeAt w (.agg #[.slice a n x, .slice b m y]) cs us := by
 obtain ⟨a', x', e1, -⟩ := id h1
 obtain ⟨b', y', e2, -⟩ := id h2
 simp only [Value.slice.injEq] at e1 e2
 obtain ⟨rfl, rfl, rfl⟩ := e1
 obtain ⟨rfl, rfl, rfl⟩ := e2
 exact ⟨_, _, _, _, rfl, h1, h2⟩
theorem grown_of_below {W w' : World} {row : Option Nat} (hb : Below W.heap.size W w') : W.grownBy w' row :=
 ⟨hb.os, hb.tape, hb.output, hb.size, fun i hi _ => hb.block i hi⟩
theorem NodeAt.setAt {w : World} {v : Value} {cs : List Chd} {us : List Upd} (h : NodeAt w v cs us) {p : Addr} {a : Option Addr} {n c : Nat} (hp : w.cell? p = some (.slice a n c)) (u : Value) : NodeAt (w.setCell p u) v cs us := by
 obtain ⟨a', b, x, y, rfl, h1, h2⟩ := h
 exact ⟨a', b, x, y, rfl, h1.setAt hp u, h2.setAt hp u⟩
def chAt (l : List Chd) (k : List UInt8) : Nat → Int
 | 0 => -1
 | j + 1 => if h : j < l.length then (if bl k l[j].low = true then chAt l k j else (j : Int)) else chAt l k j
theorem chAt_lt (l : List Chd) (k : List UInt8) : ∀ j, -1 ≤ chAt l k j ∧ chAt l k j < j
 | 0 => by unfold chAt; omega
 | j + 1 => by
  have := chAt_lt l k j
  unfold chAt
  split
  ·split <;> omega
  ·omega
theorem chAt_yes {l : List Chd} {k : List UInt8} {j : Nat} (h : j < l.length) (hb : bl k l[j].low = false) : chAt l k (j + 1) = j := by
 rw [chAt, dif_pos h, if_neg (by rw [hb]; simp)]
theorem chAt_no {l : List Chd} {k : List UInt8} {j : Nat} (h : j < l.length) (hb : bl k l[j].low = true) : chAt l k (j + 1) = chAt l k j := by
 rw [chAt, dif_pos h, if_pos hb]
def chOf (l : List Chd) (k : List UInt8) : Int := chAt l k l.length
theorem child_any (v : Value) (cs : List Chd) (us : List Upd) (k : List UInt8) (w : World) (h : NodeAt w v cs us) (hl : cs.length ≤ 1000) :
  Calls Tryz.prog 55 #[v, .string (S k)] w fun e w' => e = .returned (.int .i64 (chOf cs k)) ∧ Below w.heap.size w w' := by
 obtain ⟨a, b, x, y, rfl, h1, -⟩ := h
 have hs := h1.at
 clear h1
 go_enter Tryz.func55, Tryz.ntmps55
 go_wp2_with fail
 go_loopw [11, 5] (fun i t wr => ∃ j : Nat, i = .int .i64 j ∧ j ≤ cs.length ∧ t = .int .i64 (chAt cs k j) ∧ Below w.heap.size w wr) (fun i _ _ => cs.length - (intOf i).toNat)
 case atStart => exact ⟨0, rfl, Nat.zero_le _, rfl, by go_grown⟩
 case round =>
  obtain ⟨j, rfl, hj, rfl, hB⟩ := hrel
  have hj0 : (0 : Int) ≤ (j : Int) := Int.natCast_nonneg _
  by_cases hjl : j < cs.length
  ·have hj1 : (j : Int) < (cs.length : Int) := by omega
   obtain ⟨b0, off, rfl, hb, t0, t1, t2, t3⟩ := hs.cells4C j hjl
   have q0 := (cell_below hB hb _).trans t0
   have q1 := (cell_below hB hb _).trans t1
   have q2 := (cell_below hB hb _).trans t2
   have q3 := (cell_below hB hb _).trans t3
   clear t0 t1 t2 t3
   cases hb1 : bl k cs[j].low with
   | true =>
    have HC := Lib.hid (chAt_no hjl hb1)
    have hb' : Op.bytesLess cs[j].low k = false := bl_asymm hb1
    have he' : (cs[j].low == k) = false := by simpa using fun e : cs[j].low = k => bl_ne hb1 e.symm
    clear hb1
    generalize cs[j] = c at *
    have HB := Lib.hid (hB.alloc hB.size (.cells #[.string (S c.low), .int .i64 c.addr, .int .u64 c.gen, .int .u32 c.sum] 179))
    clear hB
    go_wp2_with fail
    go_roundw
    (case rel => exact ⟨j + 1, by go_num, by omega, by rw [HC.out], HB.out⟩)
    (case measure => first | (simp [intOf]; done) | (simp [intOf]; omega))
   | false =>
    have HC := Lib.hid (chAt_yes hjl hb1)
    rcases bl_not hb1 with e | e
    ·have he' : (cs[j].low == k) = true := by simpa using e
     clear hb1 e
     generalize cs[j] = c at *
     have HB := Lib.hid (hB.alloc hB.size (.cells #[.string (S c.low), .int .i64 c.addr, .int .u64 c.gen, .int .u32 c.sum] 179))
     clear hB
     go_wp2_with fail
     go_roundw
     (case rel => exact ⟨j + 1, by go_num, by omega, by rw [HC.out], HB.out⟩)
     (case measure => first | (simp [intOf]; done) | (simp [intOf]; omega))
    ·have hb' : Op.bytesLess cs[j].low k = true := e
     clear hb1 e
     generalize cs[j] = c at *
     have HB := Lib.hid (hB.alloc hB.size (.cells #[.string (S c.low), .int .i64 c.addr, .int .u64 c.gen, .int .u32 c.sum] 179))
     clear hB
     go_wp2_with fail
     go_roundw
     (case rel => exact ⟨j + 1, by go_num, by omega, by rw [HC.out], HB.out⟩)
     (case measure => first | (simp [intOf]; done) | (simp [intOf]; omega))
  ·obtain rfl : j = cs.length := by omega
   go_wp2_with fail
   go_ret
   exact ⟨rfl, hB⟩
def rngLow (cs : List Chd) (i : Int) : List UInt8 := if i < 0 then [] else (cs[i.toNat]?.map Chd.low).getD []
def rngHigh (cs : List Chd) (i : Int) : List UInt8 := if i < 0 then [] else if i.toNat < cs.length then (cs[i.toNat + 1]?.map Chd.low).getD [] else []
theorem range_any (v : Value) (cs : List Chd) (us : List Upd) (i : Int) (w : World) (h : NodeAt w v cs us) (hl : cs.length ≤ 1000) (hi : -9223372036854775808 ≤ i ∧ i ≤ 9223372036854775807) :
  Calls Tryz.prog 76 #[v, .int .i64 i] w fun e w' => e = .returned (.tuple #[.string (S (rngLow cs i)), .string (S (rngHigh cs i))]) ∧ Below w.heap.size w w' := by
 obtain ⟨a, b, x, y, rfl, h1, -⟩ := h
 have hs := h1.at
 clear h1
 by_cases h0 : i < 0
 ·have HL := Lib.hid (show rngLow cs i = [] by unfold rngLow; rw [if_pos h0])
  have HH := Lib.hid (show rngHigh cs i = [] by unfold rngHigh; rw [if_pos h0])
  have hd : decide (i < 0) = true := by simpa using h0
  go_enter Tryz.func76, Tryz.ntmps76
  go_wp2_with fail
  go_ret2
  exact ⟨by rw [HL.out, HH.out]; rfl, by go_grown⟩
 ·obtain ⟨q, rfl⟩ : ∃ q : Nat, i = (q : Int) := ⟨i.toNat, by omega⟩
  have hq0 : (0 : Int) ≤ (q : Int) := Int.natCast_nonneg _
  by_cases hq : q < cs.length
  ·obtain ⟨b0, off, rfl, hb, t0, -, -, -⟩ := hs.cells4C q hq
   have q0 := cell_past (.cells #[.slice (some ⟨b0, off, none⟩) cs.length x, .slice b us.length y] 105) t0
   have hq1 : (q : Int) < (cs.length : Int) := by omega
   have HL := Lib.hid (show rngLow cs q = cs[q].low by unfold rngLow; rw [if_neg h0, Int.toNat_natCast, List.getElem?_eq_getElem hq]; rfl)
   by_cases hq2 : q + 1 < cs.length
   ·obtain ⟨b1, off1, e1, hb1, u0, -, -, -⟩ := hs.cells4C (q + 1) hq2
    simp only [Option.some.injEq, Addr.mk.injEq, and_true] at e1
    obtain ⟨rfl, rfl⟩ := e1
    have q1 := cell_past (.cells #[.slice (some ⟨b0, off, none⟩) cs.length x, .slice b us.length y] 105) u0
    have HH := Lib.hid (show rngHigh cs q = cs[q + 1].low by unfold rngHigh; rw [if_neg h0, Int.toNat_natCast, if_pos hq, List.getElem?_eq_getElem hq2]; rfl)
    have hq3 : (q : Int) + 1 < (cs.length : Int) := by omega
    clear t0 u0 hs h0
    generalize cs[q] = c0 at *
    generalize cs[q + 1] = c1 at *
    go_enter Tryz.func76, Tryz.ntmps76
    go_wp2_with fail
    go_ret2
    exact ⟨by rw [HL.out, HH.out]; rfl, by go_grown⟩
   ·have HH := Lib.hid (show rngHigh cs q = [] by unfold rngHigh; rw [if_neg h0, Int.toNat_natCast, if_pos hq, List.getElem?_eq_none (by omega)]; rfl)
    have hq3 : ¬ (q : Int) + 1 < (cs.length : Int) := by omega
    clear t0 hs h0
    generalize cs[q] = c0 at *
    go_enter Tryz.func76, Tryz.ntmps76
    go_wp2_with fail
    go_ret2
    exact ⟨by rw [HL.out, HH.out]; rfl, by go_grown⟩
  ·have HL := Lib.hid (show rngLow cs q = [] by unfold rngLow; rw [if_neg h0, Int.toNat_natCast, List.getElem?_eq_none (by omega)]; rfl)
   have HH := Lib.hid (show rngHigh cs q = [] by unfold rngHigh; rw [if_neg h0, Int.toNat_natCast, if_neg hq])
   have hq3 : (cs.length : Int) ≤ (q : Int) := by omega
   clear hs h0
   go_enter Tryz.func76, Tryz.ntmps76
   go_wp2_with fail
   go_ret2
   exact ⟨by rw [HL.out, HH.out]; rfl, by go_grown⟩
end Go.Proofs.YtafciefjlkdecaaGreat
namespace Go.Proofs.YtafciefjlkdecaaGreat
open Go.RowKit
theorem wrapChk (ts : Array TypeId) (ty : TypeId) (a : Addr) (s m : ByteArray) : Builtin.ssaWrapNilChk_ ts ty #[.pointer (some a), .string s, .string m] = pure (.pointer (some a)) := rfl
theorem meth_val {P : Program} {t e : TypeId} {name : String} {f : FuncId} {i : TypeInfo} {m : Go.Method} (hi : P.info? t = some i) (hm : i.methods.find? (·.name == name) = some m) (hp : m.path = #[]) (hf : m.func = some (f, false))
  (ht : P.underlying t = some (.pointer e)) (hag : ∀ w, (isAgg e).run P w = .ok false w) (k : Nat) (a : Addr) (v : Value) (w : World) (hc : w.cell? a = some v) :
  (method (k + 1) t (.pointer (some a)) name).run P w = .ok (f, v) w := by
 unfold method
 simp [typeInfo, hi, hm, hp, hf, follow, receiverAt, run_underlying ht, Place.get, strVal, wrapChk, loadVar, asAddr, hag, hc]
theorem meth_ptr {P : Program} {t e : TypeId} {name : String} {f : FuncId} {i : TypeInfo} {m : Go.Method} (hi : P.info? t = some i) (hm : i.methods.find? (·.name == name) = some m) (hp : m.path = #[]) (hf : m.func = some (f, true))
  (ht : P.underlying t = some (.pointer e)) (k : Nat) (a : Addr) (w : World) :
  (method (k + 1) t (.pointer (some a)) name).run P w = .ok (f, .pointer (some a)) w := by
 unfold method
 simp [typeInfo, hi, hm, hp, hf, follow, receiverAt, run_underlying ht, Place.get]
theorem meth_parts {P : Program} {t : TypeId} {name : String} {f : FuncId} {b : Bool} (h : ((P.info? t).bind fun i => (i.methods.find? (·.name == name)).map fun m => (m.path, m.func)) = some (#[], some (f, b))) :
  ∃ (i : TypeInfo) (m : Go.Method), P.info? t = some i ∧ i.methods.find? (·.name == name) = some m ∧ m.path = #[] ∧ m.func = some (f, b) := by
 obtain ⟨i, hi, h⟩ := Option.bind_eq_some_iff.1 h
 obtain ⟨m, hm, h⟩ := Option.map_eq_some_iff.1 h
 simp only [Prod.mk.injEq] at h
 exact ⟨i, m, hi, hm, h.1, h.2⟩
theorem isAgg_places (w : World) : (isAgg 288).run Tryz.prog w = .ok false w := by kernel_rfl
theorem m_Len : ((Tryz.prog.info? 279).bind fun i => (i.methods.find? (·.name == "Len")).map fun m => (m.path, m.func)) = some (#[], some (178, false)) := by kernel_rfl
theorem m_Less : ((Tryz.prog.info? 279).bind fun i => (i.methods.find? (·.name == "Less")).map fun m => (m.path, m.func)) = some (#[], some (207, false)) := by kernel_rfl
theorem m_Swap : ((Tryz.prog.info? 279).bind fun i => (i.methods.find? (·.name == "Swap")).map fun m => (m.path, m.func)) = some (#[], some (209, false)) := by kernel_rfl
theorem m_Pop : ((Tryz.prog.info? 279).bind fun i => (i.methods.find? (·.name == "Pop")).map fun m => (m.path, m.func)) = some (#[], some (208, true)) := by kernel_rfl
theorem call_Len (k : Nat) (a : Addr) (v : Value) (w : World) (hc : w.cell? a = some v) : (method (k + 1) 279 (.pointer (some a)) "Len").run Tryz.prog w = .ok (178, v) w := by
 obtain ⟨i, m, h1, h2, h3, h4⟩ := meth_parts m_Len
 exact meth_val h1 h2 h3 h4 Tryz.underlying279 isAgg_places k a v w hc
theorem call_Less (k : Nat) (a : Addr) (v : Value) (w : World) (hc : w.cell? a = some v) : (method (k + 1) 279 (.pointer (some a)) "Less").run Tryz.prog w = .ok (207, v) w := by
 obtain ⟨i, m, h1, h2, h3, h4⟩ := meth_parts m_Less
 exact meth_val h1 h2 h3 h4 Tryz.underlying279 isAgg_places k a v w hc
theorem call_Swap (k : Nat) (a : Addr) (v : Value) (w : World) (hc : w.cell? a = some v) : (method (k + 1) 279 (.pointer (some a)) "Swap").run Tryz.prog w = .ok (209, v) w := by
 obtain ⟨i, m, h1, h2, h3, h4⟩ := meth_parts m_Swap
 exact meth_val h1 h2 h3 h4 Tryz.underlying279 isAgg_places k a v w hc
theorem call_Pop (k : Nat) (a : Addr) (w : World) : (method (k + 1) 279 (.pointer (some a)) "Pop").run Tryz.prog w = .ok (208, .pointer (some a)) w := by
 obtain ⟨i, m, h1, h2, h3, h4⟩ := meth_parts m_Pop
 exact meth_ptr h1 h2 h3 h4 Tryz.underlying279 k a w
theorem places_len (ao : Option Addr) (n cap : Nat) (w : World) :
  Calls Tryz.prog 178 #[.slice ao n cap] w fun e w' => e = .returned (.int .i64 n) ∧ w = w' := by
 go_enter Tryz.func178, Tryz.ntmps178
 go_wp2
 go_ret
 exact ⟨rfl, rfl⟩
def ahead (a b : Int × Int) : Bool := decide (b.2 < a.2 ∨ (a.2 = b.2 ∧ a.1 < b.1))
theorem places_less (g n cap i k : Nat) (a b : Int × Int) (w : World) (hi : i < n) (hk : k < n)
  (ca : w.cell? ⟨g, i * 2, none⟩ = some (.int .i64 a.1)) (cb : w.cell? ⟨g, i * 2 + 1, none⟩ = some (.int .i64 a.2))
  (da : w.cell? ⟨g, k * 2, none⟩ = some (.int .i64 b.1)) (db : w.cell? ⟨g, k * 2 + 1, none⟩ = some (.int .i64 b.2)) :
  Calls Tryz.prog 207 #[.slice (some ⟨g, 0, none⟩) n cap, .int .i64 i, .int .i64 k] w fun e w' => e = .returned (.bool (ahead a b)) ∧ ∃ m, w' = w.drewN m := by
 obtain ⟨a1, a2⟩ := a
 obtain ⟨b1, b2⟩ := b
 dsimp only at ca cb da db
 have hi0 : (0 : Int) ≤ (i : Int) := Int.natCast_nonneg _
 have hi1 : (i : Int) < (n : Int) := by omega
 have hk0 : (0 : Int) ≤ (k : Int) := Int.natCast_nonneg _
 have hk1 : (k : Int) < (n : Int) := by omega
 by_cases h1 : b2 < a2
 ·have Hv := Lib.hid (show ahead (a1, a2) (b1, b2) = true by simp [ahead, h1])
  go_enter Tryz.func207, Tryz.ntmps207
  go_wp2_with fail
  go_quiet (fail)
  go_wp2_with fail
  go_ret
  exact ⟨ret_bool (by rw [Hv.out]), ⟨_, rfl⟩⟩
 ·have h1' : decide (b2 < a2) = false := by simpa using h1
  clear h1
  by_cases h2 : a2 = b2
  ·subst h2
   have Hv := Lib.hid (show ahead (a1, a2) (b1, a2) = decide (a1 < b1) by simp [ahead])
   go_enter Tryz.func207, Tryz.ntmps207
   go_wp2_with fail
   go_quiet (fail)
   go_wp2_with fail
   go_ret
   exact ⟨ret_bool (by rw [Hv.out]), ⟨_, rfl⟩⟩
  ·have Hv := Lib.hid (show ahead (a1, a2) (b1, b2) = false by simp [ahead, h2]; simpa using h1')
   have h2' : (a2 == b2) = false := by simpa using h2
   clear h2
   go_enter Tryz.func207, Tryz.ntmps207
   go_wp2_with fail
   go_quiet (fail)
   go_wp2_with fail
   go_ret
   exact ⟨ret_bool (by rw [Hv.out]), ⟨_, rfl⟩⟩
open Go.RowKit
structure Only2 (p g : Nat) (w w' : World) : Prop where
 os : w'.os = w.os
 tape : w'.tape = w.tape
 output : w'.output = w.output
 size : w.heap.size ≤ w'.heap.size
 block : ∀ k, k < w.heap.size → k ≠ p → k ≠ g → w'.heap[k]? = w.heap[k]?
theorem Only2.refl (p g : Nat) (w : World) : Only2 p g w w := ⟨rfl, rfl, rfl, Nat.le_refl _, fun _ _ _ _ => rfl⟩
theorem Only2.trans {p g : Nat} {a b c : World} (h : Only2 p g a b) (k : Only2 p g b c) : Only2 p g a c :=
 ⟨k.os.trans h.os, k.tape.trans h.tape, k.output.trans h.output, Nat.le_trans h.size k.size, fun i hi h1 h2 => (k.block i (Nat.lt_of_lt_of_le hi h.size) h1 h2).trans (h.block i hi h1 h2)⟩
theorem Only2.drewN {p g : Nat} {a b : World} (h : Only2 p g a b) (n : Nat) : Only2 p g a (b.drewN n) := ⟨h.os, h.tape, h.output, h.size, h.block⟩
theorem Only2.drew {p g : Nat} {a b : World} (h : Only2 p g a b) : Only2 p g a b.drew := ⟨h.os, h.tape, h.output, h.size, h.block⟩
theorem Only2.alloc {p g : Nat} {a b : World} (h : Only2 p g a b) (o : Obj) : Only2 p g a (b.alloc o) :=
 h.trans ⟨rfl, rfl, rfl, by simp, fun k hk _ _ => Below.heap_alloc _ _ _ hk⟩
theorem Only2.setCell {p g : Nat} {a b : World} (h : Only2 p g a b) {x : Addr} (hx : x.block = p ∨ x.block = g) (v : Value) : Only2 p g a (b.setCell x v) :=
 h.trans ⟨rfl, rfl, rfl, by simp, fun k _ h1 h2 => Below.heap_setCell _ _ _ _ (by rcases hx with e | e <;> rw [e] <;> assumption)⟩
theorem Only2.below {p g B : Nat} {a b : World} (h : Only2 p g a b) (hp : B ≤ p) (hg : B ≤ g) (hB : B ≤ a.heap.size) : Below B a b :=
 ⟨h.os, h.tape, h.output, h.size, fun k hk => h.block k (by omega) (by omega) (by omega)⟩
structure HeapAt (p g cap : Nat) (l : List (Int × Int)) (w : World) : Prop where
 head : w.cell? ⟨p, 0, none⟩ = some (.slice (some ⟨g, 0, none⟩) l.length cap)
 free : ∀ o, w.frozen? ⟨p, o, none⟩ = false
 ne : g ≠ p
 fits : l.length ≤ cap ∧ cap ≤ 9223372036854775807
 cells : ∀ i (h : i < l.length), w.cell? ⟨g, i * 2, none⟩ = some (.int .i64 l[i].1) ∧ w.cell? ⟨g, i * 2 + 1, none⟩ = some (.int .i64 l[i].2)
 gfree : ∀ o, w.frozen? ⟨g, o, none⟩ = false
theorem HeapAt.drewN {p g cap : Nat} {l : List (Int × Int)} {w : World} (h : HeapAt p g cap l w) (n : Nat) : HeapAt p g cap l (w.drewN n) := ⟨h.head, h.free, h.ne, h.fits, h.cells, h.gfree⟩
theorem HeapAt.drew {p g cap : Nat} {l : List (Int × Int)} {w : World} (h : HeapAt p g cap l w) : HeapAt p g cap l w.drew := ⟨h.head, h.free, h.ne, h.fits, h.cells, h.gfree⟩
def swapL (l : List (Int × Int)) (i k : Nat) : List (Int × Int) := (l.set i (l.getD k (0, 0))).set k (l.getD i (0, 0))
theorem swapL_length (l : List (Int × Int)) (i k : Nat) : (swapL l i k).length = l.length := by simp [swapL]
theorem swapL_get (l : List (Int × Int)) (i k j : Nat) (hi : i < l.length) (hk : k < l.length) (hj : j < (swapL l i k).length) :
  (swapL l i k)[j] = if j = k then l[i] else if j = i then l[k] else l[j]'(by rwa [swapL_length] at hj) := by
 simp only [swapL, List.getElem_set, List.getD, List.getElem?_eq_getElem hi, List.getElem?_eq_getElem hk, Option.getD_some]
 by_cases h1 : j = k
 ·subst h1; simp
 ·by_cases h2 : j = i
  ·subst h2; simp [h1, Ne.symm h1]
  ·simp [h1, h2, Ne.symm h1, Ne.symm h2]
theorem step_cell {w : World} {g o o' : Nat} {v u : Value} (h : w.cell? ⟨g, o', none⟩ = some u) : (w.setCell ⟨g, o, none⟩ v).cell? ⟨g, o', none⟩ = some (if o' = o then v else u) := by
 by_cases e : o' = o
 ·subst e; rw [if_pos rfl]; exact World.cell?_setCell_same _ _ _ h
 ·rw [if_neg e, World.cell?_setCell_other _ _ _ _ (fun x => e (congrArg Addr.off x).symm)]; exact h
theorem far_cell {w : World} {g p o o' : Nat} {v u : Value} (hne : g ≠ p) (h : w.cell? ⟨p, o', none⟩ = some u) : (w.setCell ⟨g, o, none⟩ v).cell? ⟨p, o', none⟩ = some u := by
 rw [World.cell?_setCell_other _ _ _ _ (fun x => hne (congrArg Addr.block x))]; exact h
theorem swap_world {p g cap : Nat} {l : List (Int × Int)} {w : World} (h : HeapAt p g cap l w) {i k : Nat} (hi : i < l.length) (hk : k < l.length) :
  HeapAt p g cap (swapL l i k) ((((w.setCell ⟨g, i * 2, none⟩ (.int .i64 l[k].1)).setCell ⟨g, i * 2 + 1, none⟩ (.int .i64 l[k].2)).setCell ⟨g, k * 2, none⟩ (.int .i64 l[i].1)).setCell ⟨g, k * 2 + 1, none⟩ (.int .i64 l[i].2)) := by
 have hne := h.ne
 refine ⟨?_, ?_, h.ne, by rw [swapL_length]; exact h.fits, ?_, ?_⟩
 ·rw [swapL_length]
  exact far_cell hne (far_cell hne (far_cell hne (far_cell hne h.head)))
 ·intro o; simp only [World.frozen?_setCell]; exact h.free o
 ·intro j hj
  have hj' : j < l.length := by rwa [swapL_length] at hj
  rw [swapL_get l i k j hi hk hj]
  obtain ⟨c0, c1⟩ := h.cells j hj'
  have e0 := step_cell (o := k * 2 + 1) (v := .int .i64 l[i].2) (step_cell (o := k * 2) (v := .int .i64 l[i].1) (step_cell (o := i * 2 + 1) (v := .int .i64 l[k].2) (step_cell (o := i * 2) (v := .int .i64 l[k].1) c0)))
  have e1 := step_cell (o := k * 2 + 1) (v := .int .i64 l[i].2) (step_cell (o := k * 2) (v := .int .i64 l[i].1) (step_cell (o := i * 2 + 1) (v := .int .i64 l[k].2) (step_cell (o := i * 2) (v := .int .i64 l[k].1) c1)))
  rw [e0, e1]
  by_cases h1 : j = k
  ·subst h1
   constructor <;> (repeat' split) <;> first | rfl | (exfalso; omega)
  ·by_cases h2 : j = i
   ·subst h2
    constructor <;> (repeat' split) <;> first | rfl | (exfalso; omega)
   ·constructor <;> (repeat' split) <;> first | rfl | (exfalso; omega)
 ·intro o; simp only [World.frozen?_setCell]; exact h.gfree o
theorem places_swap (p g cap : Nat) (l : List (Int × Int)) (i k : Nat) (w : World) (h : HeapAt p g cap l w) (hi : i < l.length) (hk : k < l.length) (hik : i ≠ k) :
  Calls Tryz.prog 209 #[.slice (some ⟨g, 0, none⟩) l.length cap, .int .i64 i, .int .i64 k] w fun e w' => e = .returned (.tuple #[]) ∧ HeapAt p g cap (swapL l i k) w' ∧ Only2 p g w w' := by
 obtain ⟨ca, cb⟩ := h.cells i hi
 obtain ⟨da, db⟩ := h.cells k hk
 have hf := h.gfree
 have hi0 : (0 : Int) ≤ (i : Int) := Int.natCast_nonneg _
 have hi1 : (i : Int) < (l.length : Int) := by omega
 have hk0 : (0 : Int) ≤ (k : Int) := Int.natCast_nonneg _
 have hk1 : (k : Int) < (l.length : Int) := by omega
 go_enter Tryz.func209, Tryz.ntmps209
 go_wp2_with fail
 go_region
 go_wp2_with fail
 go_end0
 exact ⟨rfl, (swap_world h hi hk).drew, ((((((Only2.refl p g w).setCell (Or.inr rfl) _).setCell (Or.inr rfl) _).setCell (Or.inr rfl) _).setCell (Or.inr rfl) _)).drew⟩
theorem places_swap_same (p g cap : Nat) (l : List (Int × Int)) (i : Nat) (w : World) (h : HeapAt p g cap l w) (hi : i < l.length) :
  Calls Tryz.prog 209 #[.slice (some ⟨g, 0, none⟩) l.length cap, .int .i64 i, .int .i64 i] w fun e w' => e = .returned (.tuple #[]) ∧ HeapAt p g cap (swapL l i i) w' ∧ Only2 p g w w' := by
 obtain ⟨ca, cb⟩ := h.cells i hi
 have hf := h.gfree
 have hi0 : (0 : Int) ≤ (i : Int) := Int.natCast_nonneg _
 have hi1 : (i : Int) < (l.length : Int) := by omega
 go_enter Tryz.func209, Tryz.ntmps209
 go_wp2_with fail
 go_region
 go_wp2_with fail
 go_end0
 exact ⟨rfl, (swap_world h hi hi).drew, ((((((Only2.refl p g w).setCell (Or.inr rfl) _).setCell (Or.inr rfl) _).setCell (Or.inr rfl) _).setCell (Or.inr rfl) _)).drew⟩
theorem places_swap_any (p g cap : Nat) (l : List (Int × Int)) (i k : Nat) (w : World) (h : HeapAt p g cap l w) (hi : i < l.length) (hk : k < l.length) :
  Calls Tryz.prog 209 #[.slice (some ⟨g, 0, none⟩) l.length cap, .int .i64 i, .int .i64 k] w fun e w' => e = .returned (.tuple #[]) ∧ HeapAt p g cap (swapL l i k) w' ∧ Only2 p g w w' := by
 by_cases e : i = k
 ·subst e; exact places_swap_same p g cap l i w h hi
 ·exact places_swap p g cap l i k w h hi hk e
theorem HeapAt.alloc {p g cap : Nat} {l : List (Int × Int)} {w : World} (h : HeapAt p g cap l w) (hg : g < w.heap.size) (o : Obj) : HeapAt p g cap l (w.alloc o) := by
 have hp := World.block_lt_of_cell? w _ h.head
 refine ⟨cell_past o h.head, fun i => ?_, h.ne, h.fits, fun i hi => ⟨cell_past o (h.cells i hi).1, cell_past o (h.cells i hi).2⟩, fun i => ?_⟩
 ·exact (World.frozen?_alloc_old _ _ _ (by show p ≠ _; exact Nat.ne_of_lt hp)).trans (h.free i)
 ·exact (World.frozen?_alloc_old _ _ _ (by show g ≠ _; exact Nat.ne_of_lt hg)).trans (h.gfree i)
theorem pop_world {p g cap : Nat} {l : List (Int × Int)} {x : Int × Int} {w : World} (h : HeapAt p g cap (l ++ [x]) w) : HeapAt p g cap l (w.setCell ⟨p, 0, none⟩ (.slice (some ⟨g, 0, none⟩) l.length cap)) := by
 have hf := h.fits
 rw [List.length_append, List.length_singleton] at hf
 refine ⟨World.cell?_setCell_same _ _ _ h.head, fun o => by rw [World.frozen?_setCell]; exact h.free o, h.ne, by omega, fun i hi => ?_, fun o => by rw [World.frozen?_setCell]; exact h.gfree o⟩
 have hc := h.cells i (by simp; omega)
 rw [List.getElem_append_left hi] at hc
 exact ⟨far_cell h.ne.symm hc.1, far_cell h.ne.symm hc.2⟩
theorem places_pop (p g cap : Nat) (l : List (Int × Int)) (x : Int × Int) (w : World) (h : HeapAt p g cap (l ++ [x]) w) :
  Calls Tryz.prog 208 #[.pointer (some ⟨p, 0, none⟩)] w fun e w' => e = .returned (.iface 282 (.agg #[.int .i64 x.1, .int .i64 x.2])) ∧ HeapAt p g cap l w' ∧ Only2 p g w w' := by
 have hd := h.head
 have hf := h.free 0
 have hfit := h.fits
 obtain ⟨c0, c1⟩ := h.cells l.length (by simp)
 rw [List.length_append, List.length_singleton] at hd hfit
 simp only [List.getElem_append_right (Nat.le_refl _), Nat.sub_self, List.getElem_cons_zero] at c0 c1
 obtain ⟨hfit1, hfit2⟩ := hfit
 have hp := World.block_lt_of_cell? w _ hd
 have hn := h.ne
 go_enter Tryz.func208, Tryz.ntmps208
 go_wp2_with fail
 go_ret
 exact ⟨rfl, (pop_world h).alloc (by rw [World.size_setCell]; exact World.block_lt_of_cell? w _ c0) _, ((Only2.refl p g w).setCell (Or.inl rfl) _).alloc _⟩
open Go.RowKit
def methAt (P : Program) (t : TypeId) (name : String) (f : FuncId) (k : Nat) (a : Addr) (w : World) : Option Value → Result (FuncId × Value)
 | some v => .ok (f, v) w
 | none => (method (k + 1) t (.pointer (some a)) name).run P w
@[go_sem] theorem methAt_some (P : Program) (t : TypeId) (name : String) (f : FuncId) (k : Nat) (a : Addr) (w : World) (v : Value) : methAt P t name f k a w (some v) = .ok (f, v) w := rfl
theorem by_Len (k : Nat) (a : Addr) (w : World) : (method (k + 1) 279 (.pointer (some a)) "Len").run Tryz.prog w = methAt Tryz.prog 279 "Len" 178 k a w (w.cell? a) := by
 cases h : w.cell? a with
 | none => rfl
 | some v => exact call_Len k a v w h
theorem by_Less (k : Nat) (a : Addr) (w : World) : (method (k + 1) 279 (.pointer (some a)) "Less").run Tryz.prog w = methAt Tryz.prog 279 "Less" 207 k a w (w.cell? a) := by
 cases h : w.cell? a with
 | none => rfl
 | some v => exact call_Less k a v w h
theorem by_Swap (k : Nat) (a : Addr) (w : World) : (method (k + 1) 279 (.pointer (some a)) "Swap").run Tryz.prog w = methAt Tryz.prog 279 "Swap" 209 k a w (w.cell? a) := by
 cases h : w.cell? a with
 | none => rfl
 | some v => exact call_Swap k a v w h
def pl (l : List (Int × Int)) (i : Nat) : Int × Int := l.getD i (0, 0)
theorem pl_get {l : List (Int × Int)} {i : Nat} (h : i < l.length) : pl l i = l[i] := by simp [pl, h]
theorem less_call (p g cap : Nat) (l : List (Int × Int)) (i k : Int) (w : World) (h : HeapAt p g cap l w) (i0 : 0 ≤ i) (hi : i < l.length) (k0 : 0 ≤ k) (hk : k < l.length) :
  Calls Tryz.prog 207 #[.slice (some ⟨g, 0, none⟩) l.length cap, .int .i64 i, .int .i64 k] w fun e w' => e = .returned (.bool (ahead (pl l i.toNat) (pl l k.toNat))) ∧ ∃ m, w' = w.drewN m := by
 obtain ⟨a, rfl⟩ := Int.eq_ofNat_of_zero_le i0
 obtain ⟨b, rfl⟩ := Int.eq_ofNat_of_zero_le k0
 have ha : a < l.length := by omega
 have hb : b < l.length := by omega
 rw [Int.toNat_natCast, Int.toNat_natCast, pl_get ha, pl_get hb]
 exact places_less g l.length cap a b l[a] l[b] w ha hb (h.cells a ha).1 (h.cells a ha).2 (h.cells b hb).1 (h.cells b hb).2
theorem swap_call (p g cap : Nat) (l : List (Int × Int)) (i k : Int) (w : World) (h : HeapAt p g cap l w) (i0 : 0 ≤ i) (hi : i < l.length) (k0 : 0 ≤ k) (hk : k < l.length) :
  Calls Tryz.prog 209 #[.slice (some ⟨g, 0, none⟩) l.length cap, .int .i64 i, .int .i64 k] w fun e w' => e = .returned (.tuple #[]) ∧ HeapAt p g cap (swapL l i.toNat k.toNat) w' ∧ Only2 p g w w' := by
 obtain ⟨a, rfl⟩ := Int.eq_ofNat_of_zero_le i0
 obtain ⟨b, rfl⟩ := Int.eq_ofNat_of_zero_le k0
 rw [Int.toNat_natCast, Int.toNat_natCast]
 exact places_swap_any p g cap l a b w h (by omega) (by omega)
def childL (l : List (Int × Int)) (i n : Nat) : Nat := if 2 * i + 2 < n ∧ ahead (pl l (2 * i + 2)) (pl l (2 * i + 1)) = true then 2 * i + 2 else 2 * i + 1
def downL : Nat → List (Int × Int) → Nat → Nat → List (Int × Int)
 | 0, l, _, _ => l
 | f + 1, l, i, n =>
  if 2 * i + 1 < n then
   if ahead (pl l (childL l i n)) (pl l i) = true then downL f (swapL l i (childL l i n)) (childL l i n) n else l
  else l
theorem downL_go {f i n : Nat} {l : List (Int × Int)} (h : 2 * i + 1 < n) (k : ahead (pl l (childL l i n)) (pl l i) = true) : downL (f + 1) l i n = downL f (swapL l i (childL l i n)) (childL l i n) n := by
 rw [downL, if_pos h, if_pos k]
theorem downL_stay {f i n : Nat} {l : List (Int × Int)} (h : 2 * i + 1 < n) (k : ahead (pl l (childL l i n)) (pl l i) = false) : downL (f + 1) l i n = l := by
 rw [downL, if_pos h, if_neg (by rw [k]; simp)]
theorem downL_leaf {f i n : Nat} {l : List (Int × Int)} (h : ¬ 2 * i + 1 < n) : downL f l i n = l := by
 cases f with
 | zero => rfl
 | succ f => rw [downL, if_neg h]
theorem childL_lt {l : List (Int × Int)} {i n : Nat} (h : 2 * i + 1 < n) : childL l i n < n ∧ i < childL l i n := by
 unfold childL; split <;> omega
def SomeBool (e : Ending) : Prop := ∃ b : Bool, e = .returned (.bool b)
theorem down_any (p g cap : Nat) (l : List (Int × Int)) (i n : Int) (w : World) (h : HeapAt p g cap l w) (i0 : 0 ≤ i) (n0 : 0 ≤ n) (hn : n ≤ l.length) (hin : i ≤ n) (hl : l.length ≤ 1000000000) :
  Calls Tryz.prog 185 #[.iface 279 (.pointer (some ⟨p, 0, none⟩)), .int .i64 i, .int .i64 n] w fun e w' => SomeBool e ∧ HeapAt p g cap (downL n.toNat l i.toNat n.toNat) w' ∧ Only2 p g w w' := by
 have hLess := fun k a w => by_Less k a w
 have hSwap := fun k a w => by_Swap k a w
 obtain ⟨a, rfl⟩ := Int.eq_ofNat_of_zero_le i0
 obtain ⟨b, rfl⟩ := Int.eq_ofNat_of_zero_le n0
 rw [Int.toNat_natCast, Int.toNat_natCast]
 have hab : a ≤ b := by omega
 go_enter Tryz.func185, Tryz.ntmps185
 go_wp2_with fail
 go_loopw [7] (fun j wr => ∃ (k f : Nat) (l' : List (Int × Int)), j = .int .i64 k ∧ k ≤ b ∧ b ≤ k + f ∧ Hid (l'.length = l.length) ∧ HeapAt p g cap l' wr ∧ Hid (downL f l' k b = downL b l a b) ∧ Only2 p g w wr) (fun j _ => b - (intOf j).toNat)
 case atStart => exact ⟨a, b, l, rfl, hab, by omega, Lib.hid rfl, h, Lib.hid rfl, Only2.refl _ _ _⟩
 case round =>
  obtain ⟨k, f, l', rfl, hkb, hfb, hl', hH, hdn, hO⟩ := hrel
  have hd := hH.head
  have hn' : b ≤ l'.length := by rw [hl'.out]; omega
  have hl2 : l'.length ≤ 1000000000 := by rw [hl'.out]; omega
  by_cases h1 : 2 * k + 1 < b
  ·obtain ⟨f, rfl⟩ : ∃ f', f = f' + 1 := ⟨f - 1, by omega⟩
   have hc := childL_lt (l := l') h1
   by_cases h2 : 2 * k + 2 < b
   ·go_wp2_with fail
    have hc1 := less_call p g cap l' (2 * (k : Int) + 1 + 1) (2 * (k : Int) + 1) wr hH (by omega) (by omega) (by omega) (by omega)
    rw [show (2 * (k : Int) + 1 + 1).toNat = 2 * k + 2 by omega, show (2 * (k : Int) + 1).toNat = 2 * k + 1 by omega] at hc1
    refine hc1.mono ?_
    rintro e w1 ⟨rfl, m1, rfl⟩
    have HH := hH.drewN m1
    have hd1 := HH.head
    cases hb1 : ahead (pl l' (2 * k + 2)) (pl l' (2 * k + 1)) with
    | true =>
     have Hc := Lib.hid (show childL l' k b = 2 * k + 2 by unfold childL; rw [if_pos ⟨h2, hb1⟩])
     clear hb1 hc1
     have hcl : 2 * k + 2 < b := by omega
     go_wp2_with fail
     have hc2 := less_call p g cap l' (2 * (k : Int) + 1 + 1) k _ HH (by omega) (by omega) (by omega) (by omega)
     rw [show (2 * (k : Int) + 1 + 1).toNat = 2 * k + 2 by omega, Int.toNat_natCast] at hc2
     refine hc2.mono ?_
     rintro e w2 ⟨rfl, m2, rfl⟩
     cases hb2 : ahead (pl l' (2 * k + 2)) (pl l' k) with
     | true =>
      have hdg := Lib.hid (downL_go (f := f) h1 (by rw [Hc.out]; exact hb2))
      rw [Hc.out] at hdg
      clear hc2 hb2
      have HH2 := hH.drewN (m1 + m2)
      have hd2 := HH2.head
      go_wp2_with fail
      have hc3 := swap_call p g cap l' k (2 * (k : Int) + 1 + 1) _ HH2 (by omega) (by omega) (by omega) (by omega)
      rw [show (2 * (k : Int) + 1 + 1).toNat = 2 * k + 2 by omega, Int.toNat_natCast] at hc3
      refine hc3.mono ?_
      rintro e w3 ⟨rfl, HH3, hO3⟩
      clear hc3
      go_wp2_with fail
      go_roundw
      case rel => exact ⟨2 * k + 2, f, _, by go_num, by omega, by omega, Lib.hid (by rw [swapL_length]; exact hl'.out), HH3, Lib.hid (by rw [← hdn.out, hdg.out]), (hO.drewN (m1 + m2)).trans hO3⟩
      case measure => simp [intOf]; omega
     | false =>
      have hdg := Lib.hid (downL_stay (f := f) h1 (by rw [Hc.out]; exact hb2))
      clear hc2 hb2
      go_wp2_with fail
      go_ret
      exact ⟨⟨_, rfl⟩, by rw [← hdn.out, hdg.out]; exact hH.drewN (m1 + m2), (hO.drewN (m1 + m2))⟩
    | false =>
     have Hc := Lib.hid (show childL l' k b = 2 * k + 1 by unfold childL; rw [if_neg (by rw [hb1]; simp)])
     clear hb1 hc1
     have hcl : 2 * k + 1 < b := by omega
     go_wp2_with fail
     have hc2 := less_call p g cap l' (2 * (k : Int) + 1) k _ HH (by omega) (by omega) (by omega) (by omega)
     rw [show (2 * (k : Int) + 1).toNat = 2 * k + 1 by omega, Int.toNat_natCast] at hc2
     refine hc2.mono ?_
     rintro e w2 ⟨rfl, m2, rfl⟩
     cases hb2 : ahead (pl l' (2 * k + 1)) (pl l' k) with
     | true =>
      have hdg := Lib.hid (downL_go (f := f) h1 (by rw [Hc.out]; exact hb2))
      rw [Hc.out] at hdg
      clear hc2 hb2
      have HH2 := hH.drewN (m1 + m2)
      have hd2 := HH2.head
      go_wp2_with fail
      have hc3 := swap_call p g cap l' k (2 * (k : Int) + 1) _ HH2 (by omega) (by omega) (by omega) (by omega)
      rw [show (2 * (k : Int) + 1).toNat = 2 * k + 1 by omega, Int.toNat_natCast] at hc3
      refine hc3.mono ?_
      rintro e w3 ⟨rfl, HH3, hO3⟩
      clear hc3
      go_wp2_with fail
      go_roundw
      case rel => exact ⟨2 * k + 1, f, _, by go_num, by omega, by omega, Lib.hid (by rw [swapL_length]; exact hl'.out), HH3, Lib.hid (by rw [← hdn.out, hdg.out]), (hO.drewN (m1 + m2)).trans hO3⟩
      case measure => simp [intOf]; omega
     | false =>
      have hdg := Lib.hid (downL_stay (f := f) h1 (by rw [Hc.out]; exact hb2))
      clear hc2 hb2
      go_wp2_with fail
      go_ret
      exact ⟨⟨_, rfl⟩, by rw [← hdn.out, hdg.out]; exact hH.drewN (m1 + m2), (hO.drewN (m1 + m2))⟩
   ·have HH := hH
    have Hc := Lib.hid (show childL l' k b = 2 * k + 1 by unfold childL; rw [if_neg (by omega)])
    have hcl : 2 * k + 1 < b := by omega
    go_wp2_with fail
    have hc2 := less_call p g cap l' (2 * (k : Int) + 1) k _ HH (by omega) (by omega) (by omega) (by omega)
    rw [show (2 * (k : Int) + 1).toNat = 2 * k + 1 by omega, Int.toNat_natCast] at hc2
    refine hc2.mono ?_
    rintro e w2 ⟨rfl, m2, rfl⟩
    cases hb2 : ahead (pl l' (2 * k + 1)) (pl l' k) with
    | true =>
     have hdg := Lib.hid (downL_go (f := f) h1 (by rw [Hc.out]; exact hb2))
     rw [Hc.out] at hdg
     clear hc2 hb2
     have HH2 := HH.drewN m2
     have hd2 := HH2.head
     go_wp2_with fail
     have hc3 := swap_call p g cap l' k (2 * (k : Int) + 1) _ HH2 (by omega) (by omega) (by omega) (by omega)
     rw [show (2 * (k : Int) + 1).toNat = 2 * k + 1 by omega, Int.toNat_natCast] at hc3
     refine hc3.mono ?_
     rintro e w3 ⟨rfl, HH3, hO3⟩
     clear hc3
     go_wp2_with fail
     go_roundw
     case rel => exact ⟨2 * k + 1, f, _, by go_num, by omega, by omega, Lib.hid (by rw [swapL_length]; exact hl'.out), HH3, Lib.hid (by rw [← hdn.out, hdg.out]), (hO.drewN m2).trans hO3⟩
     case measure => simp [intOf]; omega
    | false =>
     have hdg := Lib.hid (downL_stay (f := f) h1 (by rw [Hc.out]; exact hb2))
     clear hc2 hb2
     go_wp2_with fail
     go_ret
     exact ⟨⟨_, rfl⟩, by rw [← hdn.out, hdg.out]; exact HH.drewN m2, (hO.drewN m2)⟩
  ·have hlf := Lib.hid (downL_leaf (f := f) (l := l') h1)
   go_wp2_with fail
   go_ret
   exact ⟨⟨_, rfl⟩, by rw [← hdn.out, hlf.out]; exact hH, hO⟩
open Go.RowKit
theorem by_Pop (k : Nat) (a : Addr) (w : World) : (method (k + 1) 279 (.pointer (some a)) "Pop").run Tryz.prog w = .ok (208, .pointer (some a)) w := call_Pop k a w
theorem downL_length : ∀ (f : Nat) (l : List (Int × Int)) (i n : Nat), (downL f l i n).length = l.length
 | 0, _, _, _ => rfl
 | f + 1, l, i, n => by
  unfold downL
  split
  ·split
   ·rw [downL_length f, swapL_length]
   ·rfl
  ·rfl
def initL (n : Nat) : Nat → List (Int × Int) → List (Int × Int)
 | 0, l => l
 | k + 1, l => initL n k (downL n l k n)
theorem initL_length (n : Nat) : ∀ (k : Nat) (l : List (Int × Int)), (initL n k l).length = l.length
 | 0, _ => rfl
 | k + 1, l => by rw [initL, initL_length n k, downL_length]
theorem init_any (p g cap : Nat) (l : List (Int × Int)) (w : World) (h : HeapAt p g cap l w) (hl : l.length ≤ 1000000000) :
  Calls Tryz.prog 184 #[.iface 279 (.pointer (some ⟨p, 0, none⟩))] w fun e w' => e = .returned (.tuple #[]) ∧ HeapAt p g cap (initL l.length (l.length / 2) l) w' ∧ Only2 p g w w' := by
 have hLen := fun k a w => by_Len k a w
 have hd := h.head
 go_enter Tryz.func184, Tryz.ntmps184
 go_wp2_with (go_at_call 178; refine (places_len _ _ _ _).mono ?_; rintro e w1 ⟨rfl, rfl⟩)
 go_loopw [3] (fun i wr => ∃ (k : Nat) (l' : List (Int × Int)), i = .int .i64 ((k : Int) - 1) ∧ k ≤ l.length / 2 ∧ Hid (l'.length = l.length) ∧ HeapAt p g cap l' wr ∧ Hid (initL l.length k l' = initL l.length (l.length / 2) l) ∧ Only2 p g w wr) (fun i _ => (intOf i + 1).toNat)
 case atStart => exact ⟨l.length / 2, l, by go_num, Nat.le_refl _, Lib.hid rfl, h, Lib.hid rfl, Only2.refl _ _ _⟩
 case round =>
  obtain ⟨k, l', rfl, hk, hl', hH, hin, hO⟩ := hrel
  cases k with
  | zero =>
   have h0 : ¬ (0 ≤ ((0 : Nat) : Int) - 1) := by omega
   go_wp2_with fail
   go_end0
   exact ⟨rfl, by rw [← hin.out]; exact hH, hO⟩
  | succ k =>
   have hk' : k < l.length / 2 := by omega
   go_wp2_with fail
   have hc := down_any p g cap l' k l.length wr hH (by omega) (by omega) (by rw [hl'.out]; omega) (by omega) (by rw [hl'.out]; omega)
   rw [Int.toNat_natCast, Int.toNat_natCast] at hc
   refine hc.mono ?_
   rintro e w1 ⟨⟨b, rfl⟩, HH, hO1⟩
   clear hc
   go_wp2_with fail
   go_roundw
   case rel => exact ⟨k, _, rfl, by omega, Lib.hid (by rw [downL_length]; exact hl'.out), HH, Lib.hid (by rw [← hin.out]; rfl), hO.trans hO1⟩
   case measure => first | (simp [intOf]; done) | (simp [intOf]; omega)
def popL (l : List (Int × Int)) : List (Int × Int) := downL (l.length - 1) (swapL l 0 (l.length - 1)) 0 (l.length - 1)
theorem popL_length (l : List (Int × Int)) : (popL l).length = l.length := by rw [popL, downL_length, swapL_length]
theorem pop_any (p g cap : Nat) (l : List (Int × Int)) (w : World) (h : HeapAt p g cap l w) (hl : l.length ≤ 1000000000) (h0 : 0 < l.length) (r : List (Int × Int)) (x : Int × Int) (hr : popL l = r ++ [x]) :
  Calls Tryz.prog 179 #[.iface 279 (.pointer (some ⟨p, 0, none⟩))] w fun e w' => e = .returned (.iface 282 (.agg #[.int .i64 x.1, .int .i64 x.2])) ∧ HeapAt p g cap r w' ∧ Only2 p g w w' := by
 have hLen := fun k a w => by_Len k a w
 have hSwap := fun k a w => by_Swap k a w
 have hPop := fun k a w => by_Pop k a w
 have hd := h.head
 go_enter Tryz.func179, Tryz.ntmps179
 go_wp2_with (go_at_call 178; refine (places_len _ _ _ _).mono ?_; rintro e w1 ⟨rfl, rfl⟩)
 have hc := swap_call p g cap l 0 ((l.length : Int) - 1) w h (by omega) (by omega) (by omega) (by omega)
 rw [show ((l.length : Int) - 1).toNat = l.length - 1 by omega, show (0 : Int).toNat = 0 from rfl] at hc
 refine hc.mono ?_
 rintro e w1 ⟨rfl, H1, hO1⟩
 clear hc
 go_wp2_with fail
 have hc := down_any p g cap _ 0 ((l.length : Int) - 1) w1 H1 (by omega) (by omega) (by rw [swapL_length]; omega) (by omega) (by rw [swapL_length]; omega)
 rw [show ((l.length : Int) - 1).toNat = l.length - 1 by omega, show (0 : Int).toNat = 0 from rfl] at hc
 refine hc.mono ?_
 rintro e w2 ⟨⟨b, rfl⟩, H2, hO2⟩
 clear hc
 have H2' : HeapAt p g cap (r ++ [x]) w2 := by rw [← hr]; exact H2
 clear H2
 go_wp2_with (go_at_call 208; refine (places_pop p g cap r x _ H2').mono ?_; rintro e w3 ⟨rfl, H3, hO3⟩)
 go_ret
 exact ⟨rfl, H3, hO1.trans (hO2.trans hO3)⟩
open Go.RowKit
abbrev IntsAt (w : World) (ao : Option Addr) (l : List Int) : Prop := SlAt (fun x : Int => [Value.int .i64 x]) 1 w ao l
def pairs (l : List Int) : List (Int × Int) := l.zipIdx.map fun q => ((q.2 : Int), q.1)
theorem pairs_length (l : List Int) : (pairs l).length = l.length := by simp [pairs]
theorem pairs_get (l : List Int) (i : Nat) (h : i < (pairs l).length) : (pairs l)[i] = ((i : Int), l[i]'(by rwa [pairs_length] at h)) := by simp [pairs]
theorem pairs_snoc (l : List Int) (i : Nat) (h : i < l.length) : pairs (l.take (i + 1)) = pairs (l.take i) ++ [((i : Int), l[i])] := by
 rw [List.take_succ_eq_append_getElem h]
 have : (l.take i).length = i := by rw [List.length_take]; omega
 simp only [pairs, List.zipIdx_append, List.map_append, this, Nat.zero_add]
 rfl
def cellsP (l : List (Int × Int)) : List Value := l.flatMap fun q => [.int .i64 q.1, .int .i64 q.2]
theorem cellsP_snoc (l : List (Int × Int)) (q : Int × Int) : cellsP (l ++ [q]) = cellsP l ++ [.int .i64 q.1, .int .i64 q.2] := by simp [cellsP]
theorem cellsP_get : ∀ (l : List (Int × Int)) (i : Nat) (h : i < l.length), (cellsP l)[i * 2]? = some (.int .i64 l[i].1) ∧ (cellsP l)[i * 2 + 1]? = some (.int .i64 l[i].2)
 | [], i, h => by simp at h
 | q :: l, 0, _ => by simp [cellsP]
 | q :: l, i + 1, h => by
  have := cellsP_get l i (by simpa using h)
  rw [show (i + 1) * 2 + 1 = (i * 2 + 1) + 2 by omega, show (i + 1) * 2 = i * 2 + 2 by omega]
  simpa [cellsP] using this
structure HeadAt (w0 : World) (p : Nat) (l : List (Int × Int)) (v : Value) (wr : World) : Prop where
 own : wr.ownsRow (p + 1) 282 2 v l.length (cellsP l)
 head : wr.cell? ⟨p, 0, none⟩ = some v
 free : ∀ o, wr.frozen? ⟨p, o, none⟩ = false
 below : Below p w0 wr
 size : p < wr.heap.size
theorem HeadAt.heap {w0 : World} {p : Nat} {l : List (Int × Int)} {v : Value} {wr : World} (h : HeadAt w0 p l v wr) (hl : 0 < l.length) : ∃ g c, p < g ∧ HeapAt p g c l wr := by
 have hown := h.own
 rcases hown.2 with ⟨_, hn⟩ | ⟨g, cap, cur, hv, hb, hg, hnc, hcm, hcs, htake⟩
 ·omega
 ·subst hv
  refine ⟨g, cap, by omega, h.head, h.free, by omega, ⟨hnc, by simpa [maxLen] using hcm⟩, fun i hi => ?_, fun o => hown.frozenAt o⟩
  have := cellsP_get l i hi
  exact ⟨(hown.cellAt (i * 2) (by omega)).trans this.1, (hown.cellAt (i * 2 + 1) (by omega)).trans this.2⟩
theorem place_info : (Tryz.prog.info? 282).map (fun i => (i.zero, i.size, i.bytes)) = some (some (.agg #[.int .i64 0, .int .i64 0]), 2, 16) := by kernel_rfl
theorem cell_two_newP (w : World) (x y : Value) (t : TypeId) : ∀ j u, [x, y][j]? = some u → (w.alloc (.cells #[x, y] t)).cell? ((⟨w.heap.size, 0, none⟩ : Addr).add j) = some u := by
 intro j u hj
 match j, hj with
 | 0, hj => simp at hj; subst hj; simp [Addr.add]
 | 1, hj => simp at hj; subst hj; simp [Addr.add]
theorem two_oneCell (x y : Int) : ∀ u ∈ [Value.int .i64 x, .int .i64 y], u.oneCell' = true := by
 intro u hu
 simp only [List.mem_cons, List.not_mem_nil, or_false] at hu
 rcases hu with rfl | rfl <;> rfl
theorem _root_.Go.World.ownsRow.slice {w : World} {base : Nat} {e : TypeId} {size : Nat} {v : Value} {n : Nat} {xs : List Value} (h : w.ownsRow base e size v n xs) (hn : 0 < n) : ∃ g cap, v = .slice (some ⟨g, 0, none⟩) n cap := by
 rcases h.2 with ⟨_, hn'⟩ | ⟨g, cap, cur, hv, _⟩
 ·omega
 ·exact ⟨g, cap, hv⟩
theorem HeadAt.start (w : World) (t : TypeId) (l : List Int) : HeadAt w w.heap.size (pairs (l.take 0)) (.slice none 0 0) (w.alloc (.cells #[.slice none 0 0] t)) :=
 ⟨World.ownsRow_nil _ _ _ _, by simp, fun o => by simp, (Below.refl _ _).alloc (Nat.le_refl _) _, by simp⟩
theorem HeadAt.old {w0 : World} {p : Nat} {l : List (Int × Int)} {v : Value} {wr : World} (h : HeadAt w0 p l v wr) (q : Int × Int) (t : TypeId) {v' : Value} {w1 : World}
  (_hown : w1.ownsRow (p + 1) 282 2 v' (l.length + 1) (cellsP l ++ [.int .i64 q.1, .int .i64 q.2])) (hgrow : (wr.alloc (.cells #[.int .i64 q.1, .int .i64 q.2] t)).grownBy w1 v.ownBlock) :
  w1.cell? ⟨p, 0, none⟩ = some v ∧ w1.frozen? ⟨p, 0, none⟩ = false := by
 have hne : v.ownBlock ≠ some p := fun e => by have := (h.own.lt p e).1; omega
 have hp := h.size
 have hblk : w1.heap[p]? = wr.heap[p]? := (hgrow.block p (by simp; omega) (fun e => hne e.symm)).trans (Below.heap_alloc _ _ _ hp)
 exact ⟨(World.cell?_of_block hblk).trans h.head, (World.frozen?_of_block hblk).trans (h.free 0)⟩
theorem HeadAt.more {w0 : World} {p : Nat} {l : List (Int × Int)} {v : Value} {wr : World} (h : HeadAt w0 p l v wr) (q : Int × Int) (t : TypeId) {v' : Value} {w1 : World}
  (hown : w1.ownsRow (p + 1) 282 2 v' (l.length + 1) (cellsP l ++ [.int .i64 q.1, .int .i64 q.2])) (hgrow : (wr.alloc (.cells #[.int .i64 q.1, .int .i64 q.2] t)).grownBy w1 v.ownBlock) :
  HeadAt w0 p (l ++ [q]) v' (w1.setCell ⟨p, 0, none⟩ v') := by
 have hne : v.ownBlock ≠ some p := fun e => by have := (h.own.lt p e).1; omega
 have hne' : v'.ownBlock ≠ some p := fun e => by have := (hown.lt p e).1; omega
 have hp := h.size
 have hblk : w1.heap[p]? = wr.heap[p]? := (hgrow.block p (by simp; omega) (fun e => hne e.symm)).trans (Below.heap_alloc _ _ _ hp)
 have hcp : w1.cell? ⟨p, 0, none⟩ = some v := (World.cell?_of_block hblk).trans h.head
 have hsz : p < w1.heap.size := Nat.lt_of_lt_of_le hp (Nat.le_trans (by simp) hgrow.size)
 refine ⟨?_, World.cell?_setCell_same _ _ _ hcp, fun o => ?_, ?_, by rw [World.size_setCell]; exact hsz⟩
 ·rw [cellsP_snoc, List.length_append, List.length_singleton]
  exact hown.kept (row := some p) ⟨rfl, rfl, rfl, by simp, fun k _ hk => Below.heap_setCell _ _ _ _ (fun e => hk (by rw [e]))⟩ (Or.inr hne')
 ·rw [World.frozen?_setCell]
  exact (World.frozen?_of_block hblk).trans (h.free o)
 ·have hb1 : Below p wr w1 := ⟨hgrow.os, hgrow.tape, hgrow.output, Nat.le_trans (by simp) hgrow.size, fun k hk => (hgrow.block k (by simp; omega) (fun e => by have := (h.own.lt k e.symm).1; omega)).trans (Below.heap_alloc _ _ _ (by omega))⟩
  exact h.below.trans (hb1.trans ⟨rfl, rfl, rfl, by simp, fun k hk => Below.heap_setCell _ _ _ _ (by show k ≠ p; omega)⟩)
theorem heaped_any (ao : Option Addr) (cap : Nat) (l : List Int) (w : World) (hs : IntsAt w ao l) (h0 : 0 < l.length) (hl : l.length ≤ 1000000) :
  Calls Tryz.prog 177 #[.slice ao l.length cap] w fun e w' => ∃ p g c, e = .returned (.pointer (some ⟨p, 0, none⟩)) ∧ HeapAt p g c (initL l.length (l.length / 2) (pairs l)) w' ∧ w.heap.size ≤ p ∧ p < g ∧ Below w.heap.size w w' := by
 obtain ⟨b, off, rfl, hb, hc⟩ := hs.at h0
 obtain ⟨i0, hi, hz0, hz1, hz2⟩ := info_parts place_info
 go_enter Tryz.func177, Tryz.ntmps177
 go_wp2_with fail
 go_loopw [8] (fun i wr => ∃ (k : Nat) (v : Value), i = .int .i64 k ∧ k ≤ l.length ∧ HeadAt w w.heap.size (pairs (l.take k)) v wr) (fun i _ => l.length - (intOf i).toNat)
 case atStart => exact ⟨0, _, rfl, Nat.zero_le _, HeadAt.start _ _ _⟩
 case round =>
  obtain ⟨k, v, rfl, hk, hH⟩ := hrel
  have hlen : (pairs (l.take k)).length = k := by rw [pairs_length, List.length_take]; omega
  have hsz := hH.size
  by_cases hkl : k < l.length
  ·have hck := hH.below.cell (p := ⟨b, off + k * 1 + 0, none⟩) hb
   rw [hc k hkl 0 _ rfl, Nat.mul_one, Nat.add_zero] at hck
   have hk0 : (0 : Int) ≤ (k : Int) := Int.natCast_nonneg _
   have hk1 : (k : Int) < (l.length : Int) := by omega
   have hhd := hH.head
   have hfr := hH.free 0
   have hsn := Lib.hid (pairs_snoc l k hkl)
   go_wp2_with (at_builtin; refine wpList_append_own_at _ rfl _ _ 288 rfl (w.heap.size + 1) 282 i0 (.agg #[.int .i64 0, .int .i64 0]) 2 16 Tryz.underlying288 hi hz0 hz1 hz2 rfl (by decide) v (pairs (l.take k)).length _ rfl (hH.own.alloc _) ⟨wr.heap.size, 0, none⟩ 1 1 [.int .i64 k, .int .i64 l[k]] rfl rfl (cell_two_newP _ _ _ _) (two_oneCell _ _) (by rw [hlen]; unfold maxLen; omega) (by rw [hlen]; omega) (by simp; omega) ?_; intro v' w1 hown' hgrow hnil hat; have hM := hH.more (k, l[k]) _ hown' hgrow; obtain ⟨hw1c, hw1f⟩ := hH.old (k, l[k]) _ hown' hgrow; rcases hown'.slice (by omega) with ⟨g', c', rfl⟩; rw [hlen] at hM)
   go_roundw
   case rel => exact ⟨k + 1, _, by go_num, by omega, by rw [hsn.out]; exact hM⟩
   case measure => simp [intOf]; omega
  ·have hk' : k = l.length := by omega
   subst hk'
   rw [List.take_length] at hH hlen
   obtain ⟨g, c, hpg, HH⟩ := hH.heap (by omega)
   go_wp2_with fail
   have hcall := init_any _ g c _ wr HH (by omega)
   rw [pairs_length] at hcall
   refine hcall.mono ?_
   rintro e w1 ⟨rfl, H1, hO1⟩
   go_wp2_with fail
   go_ret
   exact ⟨_, g, c, rfl, H1, Nat.le_refl _, hpg, hH.below.trans (hO1.below (Nat.le_refl _) (by omega) (by omega))⟩
open Go.RowKit
theorem HeapAt.blocks {p g cap : Nat} {l : List (Int × Int)} {w w' : World} (h : HeapAt p g cap l w) (hp : w'.heap[p]? = w.heap[p]?) (hg : w'.heap[g]? = w.heap[g]?) : HeapAt p g cap l w' :=
 ⟨(World.cell?_of_block hp).trans h.head, fun o => (World.frozen?_of_block hp).trans (h.free o), h.ne, h.fits,
  fun i hi => ⟨(World.cell?_of_block hg).trans (h.cells i hi).1, (World.cell?_of_block hg).trans (h.cells i hi).2⟩, fun o => (World.frozen?_of_block hg).trans (h.gfree o)⟩
theorem ownsRow_only2 {p g : Nat} {w w' : World} {base : Nat} {e : TypeId} {size : Nat} {v : Value} {n : Nat} {xs : List Value} (h : w.ownsRow base e size v n xs) (hO : Only2 p g w w') (hp : v.ownBlock ≠ some p) (hg : v.ownBlock ≠ some g) : w'.ownsRow base e size v n xs := by
 refine ⟨h.1, ?_⟩
 rcases h.2 with hn | ⟨b, cap, cur, rfl, hb, hgg, rest⟩
 ·exact .inl hn
 ·refine .inr ⟨b, cap, cur, rfl, hb, ?_, rest⟩
  rw [hO.block b (Array.getElem?_eq_some_iff.1 hgg).1 (fun e => hp (by simp [Value.ownBlock, e])) (fun e => hg (by simp [Value.ownBlock, e]))]
  exact hgg
def takeTop : Nat → List (Int × Int) → List Int
 | 0, _ => []
 | f + 1, h =>
  match (popL h).getLast? with
  | none => []
  | some x => x.1 :: takeTop f (popL h).dropLast
theorem takeTop_go {f : Nat} {h r : List (Int × Int)} {x : Int × Int} (e : popL h = r ++ [x]) : takeTop (f + 1) h = x.1 :: takeTop f r := by
 rw [takeTop, e]; simp
theorem takeTop_nil (f : Nat) : takeTop f [] = [] := by
 cases f with
 | zero => rfl
 | succ f =>
  have : popL [] = [] := List.eq_nil_of_length_eq_zero (by rw [popL_length]; rfl)
  rw [takeTop, this]; rfl
theorem popL_some {h : List (Int × Int)} (h0 : 0 < h.length) : ∃ r x, popL h = r ++ [x] ∧ r.length + 1 = h.length := by
 have hl := popL_length h
 rcases List.eq_nil_or_concat (popL h) with e | ⟨r, x, e⟩
 ·rw [e] at hl; simp at hl; omega
 ·rw [List.concat_eq_append] at e
  refine ⟨r, x, e, ?_⟩
  rw [e] at hl; simpa using hl
def intsV (l : List Int) : List Value := l.map fun x => .int .i64 x
theorem intsV_snoc (l : List Int) (x : Int) : intsV (l ++ [x]) = intsV l ++ [.int .i64 x] := by simp [intsV]
def sliceLen : Value → Nat
 | .slice _ n _ => n
 | _ => 0
structure OutAt (w0 : World) (p g c : Nat) (h : List (Int × Int)) (r : List Int) (v : Value) (wr : World) : Prop where
 own : wr.ownsRow w0.heap.size 3 1 v r.length (intsV r)
 heap : HeapAt p g c h wr
 pa : v.ownBlock ≠ some p
 ga : v.ownBlock ≠ some g
 below : Below w0.heap.size w0 wr
 plt : p < wr.heap.size
 glt : g < wr.heap.size
 len : sliceLen v = r.length
theorem int_info : (Tryz.prog.info? 3).map (fun i => (i.zero, i.size, i.bytes)) = some (some (.int .i64 0), 1, 8) := by kernel_rfl
theorem OutAt.start {w0 : World} {p g c : Nat} {h : List (Int × Int)} {w : World} (hH : HeapAt p g c h w) (hb : Below w0.heap.size w0 w) (hg : g < w.heap.size) : OutAt w0 p g c h [] (.slice none 0 0) w :=
 ⟨World.ownsRow_nil _ _ _ _, hH, by simp [Value.ownBlock], by simp [Value.ownBlock], hb, World.block_lt_of_cell? w _ hH.head, hg, rfl⟩
theorem OutAt.form {w0 : World} {p g c : Nat} {h : List (Int × Int)} {r : List Int} {v : Value} {wr : World} (hO : OutAt w0 p g c h r v wr) : ∃ ao c', v = .slice ao r.length c' := by
 rcases hO.own.2 with ⟨e, hn⟩ | ⟨g, cap, cur, hv, _⟩
 ·exact ⟨none, 0, by rw [e, hn]⟩
 ·exact ⟨_, _, hv⟩
theorem OutAt.popped {w0 : World} {p g c : Nat} {h h' : List (Int × Int)} {r : List Int} {v : Value} {wr w1 : World} (hO : OutAt w0 p g c h r v wr) (H : HeapAt p g c h' w1) (k : Only2 p g wr w1) (hp : w0.heap.size ≤ p) (hg : w0.heap.size ≤ g) : OutAt w0 p g c h' r v w1 :=
 ⟨ownsRow_only2 hO.own k hO.pa hO.ga, H, hO.pa, hO.ga, hO.below.trans (k.below hp hg hO.below.size), Nat.lt_of_lt_of_le hO.plt k.size, Nat.lt_of_lt_of_le hO.glt k.size, hO.len⟩
theorem OutAt.kept {w0 : World} {p g c : Nat} {h : List (Int × Int)} {r : List Int} {v : Value} {wr w1 : World} (hO : OutAt w0 p g c h r v wr) (k : Below wr.heap.size wr w1) : OutAt w0 p g c h r v w1 := by
 have k2 : Only2 p g wr w1 := ⟨k.os, k.tape, k.output, k.size, fun i hi _ _ => k.block i hi⟩
 exact ⟨ownsRow_only2 hO.own k2 hO.pa hO.ga, hO.heap.blocks (k.block p hO.plt) (k.block g hO.glt), hO.pa, hO.ga, hO.below.trans (k.mono hO.below.size), Nat.lt_of_lt_of_le hO.plt k.size, Nat.lt_of_lt_of_le hO.glt k.size, hO.len⟩
theorem OutAt.more {w0 : World} {p g c : Nat} {h : List (Int × Int)} {r : List Int} {v v' : Value} {wr w1 : World} (hO : OutAt w0 p g c h r v wr) (x : Int) (hown : w1.ownsRow w0.heap.size 3 1 v' (r.length + 1) (intsV r ++ [.int .i64 x])) (hgrow : wr.grownBy w1 v.ownBlock)
  (hat : v'.ownBlock = v.ownBlock ∨ v'.ownBlock = some wr.heap.size) : OutAt w0 p g c h (r ++ [x]) v' w1 := by
 have h1 := hO.plt
 have h2 := hO.glt
 refine ⟨by rw [intsV_snoc, List.length_append, List.length_singleton]; exact hown, hO.heap.blocks (hgrow.block p h1 (fun e => hO.pa e.symm)) (hgrow.block g h2 (fun e => hO.ga e.symm)), ?_, ?_, ?_, Nat.lt_of_lt_of_le h1 hgrow.size, Nat.lt_of_lt_of_le h2 hgrow.size, ?_⟩
 ·rcases hat with e | e <;> rw [e]
  ·exact hO.pa
  ·intro e; simp at e; omega
 ·rcases hat with e | e <;> rw [e]
  ·exact hO.ga
  ·intro e; simp at e; omega
 ·exact hO.below.trans ⟨hgrow.os, hgrow.tape, hgrow.output, hgrow.size, fun k hk => hgrow.block k (Nat.lt_of_lt_of_le hk hO.below.size) (fun e => by have := (hO.own.lt k e.symm).1; omega)⟩
 ·obtain ⟨g', c', rfl⟩ := hown.slice (by omega)
  simp [sliceLen]
@[go_sem] theorem as_place (v : Value) (w : World) : (Instr.typeAssert (.iface 282 v) 20 282 true).run Tryz.prog w = .ok (.tuple #[v, .bool true]) w := by kernel_rfl
theorem cell_one_new2 (w : World) (o : Obj) (x : Value) (t : TypeId) : ∀ j u, [x][j]? = some u → ((w.alloc o).alloc (.cells #[x] t)).cell? ((⟨w.heap.size + 1, 0, none⟩ : Addr).add j) = some u := by
 have h := cell_one_new (w.alloc o) x t
 rw [show (w.alloc o).heap.size = w.heap.size + 1 from by simp] at h
 exact h
theorem top_any (ao : Option Addr) (cap : Nat) (l : List Int) (most : Int) (w : World) (hs : IntsAt w ao l) (h0 : 0 < l.length) (hl : l.length ≤ 1000000) :
  Calls Tryz.prog 159 #[.slice ao l.length cap, .int .i64 most] w fun e w' => ∃ v, e = .returned v ∧ w'.ownsRow w.heap.size 3 1 v (takeTop most.toNat (initL l.length (l.length / 2) (pairs l))).length (intsV (takeTop most.toNat (initL l.length (l.length / 2) (pairs l)))) ∧ sliceLen v = (takeTop most.toNat (initL l.length (l.length / 2) (pairs l))).length ∧ Below w.heap.size w w' := by
 obtain ⟨i0, hi, hz0, hz1, hz2⟩ := info_parts int_info
 generalize hL : initL l.length (l.length / 2) (pairs l) = L
 have hLl : L.length = l.length := by rw [← hL, initL_length, pairs_length]
 go_enter Tryz.func159, Tryz.ntmps159
 go_wp2_with fail
 refine (heaped_any ao cap l w hs h0 hl).mono ?_
 rintro e w1 ⟨p, g, c, rfl, hH, hp, hpg, hb1⟩
 rw [hL] at hH
 have hg1 : g < w1.heap.size := World.block_lt_of_cell? w1 _ (hH.cells 0 (by omega)).1
 go_wp2_with fail
 go_loopw [6] (fun j wr => ∃ (h : List (Int × Int)) (r : List Int), h.length + r.length = l.length ∧ Hid (r ++ takeTop (most.toNat - r.length) h = takeTop most.toNat L) ∧ OutAt w p g c h r j wr) (fun j _ => l.length - sliceLen j)
 case atStart => exact ⟨L, [], by simpa using hLl, Lib.hid (by simp), OutAt.start hH hb1 hg1⟩
 case round =>
  obtain ⟨h, r, hhr, hT, hO⟩ := hrel
  obtain ⟨ao', c', rfl⟩ := hO.form
  have hd := hO.heap.head
  have hr0 : (0 : Int) ≤ (r.length : Int) := Int.natCast_nonneg _
  by_cases hh : 0 < h.length
  ·have hh' : (0 : Int) < (h.length : Int) := by omega
   by_cases hm : (r.length : Int) < most
   ·obtain ⟨h', x, hpl, hxl⟩ := popL_some hh
    have hpl' := Lib.hid hpl
    go_wp2_with fail
    refine (places_len _ _ _ _).mono ?_
    rintro e w2 ⟨rfl, rfl⟩
    go_wp2_with fail
    have hc := pop_any p g c h wr hO.heap (by omega) hh h' x hpl'.out
    refine hc.mono ?_
    rintro e w2 ⟨rfl, H2, hO2⟩
    clear hc
    have O2 := hO.popped H2 hO2 hp (by omega)
    have hrl : r.length < 1000000 := by omega
    have O3 := O2.kept (w1 := w2.alloc (.cells #[.int .i64 x.1, .int .i64 x.2] 282)) ((Below.refl _ _).alloc (Nat.le_refl _) _)
    have hBS : w.heap.size ≤ ((w2.alloc (.cells #[.int .i64 x.1, .int .i64 x.2] 282)).alloc (.cells #[.int .i64 x.1] 3)).heap.size := by have := O2.below.size; simp; omega
    go_wp2_with (at_builtin; refine wpList_append_own_at _ rfl _ _ 55 rfl w.heap.size 3 i0 (.int .i64 0) 1 8 Tryz.underlying55 hi hz0 hz1 hz2 rfl (by decide) _ r.length _ rfl (O3.own.alloc _) ⟨w2.heap.size + 1, 0, none⟩ 1 1 [.int .i64 x.1] rfl rfl (cell_one_new2 _ _ _ _) (by intro u hu; simp at hu; subst hu; rfl) (by unfold maxLen; omega) (by omega) hBS ?_; intro v' w4 hown' hgrow hnil hat; have O4 := (O3.kept ((Below.refl _ _).alloc (Nat.le_refl _) _)).more x.1 hown' hgrow hat; rcases hown'.slice (by omega) with ⟨g', c'', rfl⟩)
    go_roundw
    case rel =>
     refine ⟨h', r ++ [x.1], by rw [List.length_append, List.length_singleton]; omega, Lib.hid ?_, O4⟩
     have hT' := hT.out
     obtain ⟨f, hf⟩ : ∃ f, most.toNat - r.length = f + 1 := ⟨most.toNat - r.length - 1, by omega⟩
     rw [hf, takeTop_go hpl'.out] at hT'
     rw [List.length_append, List.length_singleton, List.append_assoc, List.singleton_append, show most.toNat - (r.length + 1) = f by omega]
     exact hT'
    case measure => simp only [sliceLen]; omega
   ·go_wp2_with fail
    refine (places_len _ _ _ _).mono ?_
    rintro e w2 ⟨rfl, rfl⟩
    have hT' := hT.out
    rw [show most.toNat - r.length = 0 by omega, takeTop, List.append_nil] at hT'
    subst hT'
    go_wp2_with fail
    go_ret
    exact ⟨_, rfl, hO.own, hO.len, hO.below⟩
  ·have h0' : h.length = 0 := by omega
   obtain rfl := List.eq_nil_of_length_eq_zero h0'
   have hT' := hT.out
   rw [takeTop_nil, List.append_nil] at hT'
   subst hT'
   go_wp2_with fail
   refine (places_len _ _ _ _).mono ?_
   rintro e w2 ⟨rfl, rfl⟩
   go_wp2_with fail
   go_ret
   exact ⟨_, rfl, hO.own, hO.len, hO.below⟩
theorem init_none (p : Nat) (w : World) (h : w.cell? ⟨p, 0, none⟩ = some (.slice none 0 0)) :
  Calls Tryz.prog 184 #[.iface 279 (.pointer (some ⟨p, 0, none⟩))] w fun e w' => e = .returned (.tuple #[]) ∧ w = w' := by
 have hLen := fun k a w => by_Len k a w
 go_enter Tryz.func184, Tryz.ntmps184
 go_wp2_with (go_at_call 178; refine (places_len _ _ _ _).mono ?_; rintro e w1 ⟨rfl, rfl⟩)
 go_loopw [3] (fun i wr => i = .int .i64 (-1) ∧ wr = w) (fun i _ => 0)
 case atStart => exact ⟨rfl, rfl⟩
 case round =>
  obtain ⟨rfl, rfl⟩ := hrel
  go_wp2_with fail
  go_end0
  exact ⟨rfl, rfl⟩
theorem heaped_none (ao : Option Addr) (cap : Nat) (w : World) :
  Calls Tryz.prog 177 #[.slice ao 0 cap] w fun e w' => e = .returned (.pointer (some ⟨w.heap.size, 0, none⟩)) ∧ w'.cell? ⟨w.heap.size, 0, none⟩ = some (.slice none 0 0) ∧ Below w.heap.size w w' := by
 go_enter Tryz.func177, Tryz.ntmps177
 go_wp2_with fail
 go_loopw [8] (fun i wr => i = .int .i64 0 ∧ wr = w.alloc (.cells #[.slice none 0 0] 288)) (fun i _ => 0)
 case atStart => exact ⟨rfl, rfl⟩
 case round =>
  obtain ⟨rfl, rfl⟩ := hrel
  go_wp2_with fail
  refine (init_none _ _ (by simp)).mono ?_
  rintro e w1 ⟨rfl, rfl⟩
  go_wp2_with fail
  go_ret
  exact ⟨rfl, by simp, (Below.refl _ _).alloc (Nat.le_refl _) _⟩
theorem top_none (ao : Option Addr) (cap : Nat) (most : Int) (w : World) :
  Calls Tryz.prog 159 #[.slice ao 0 cap, .int .i64 most] w fun e w' => e = .returned (.slice none 0 0) ∧ Below w.heap.size w w' := by
 go_enter Tryz.func159, Tryz.ntmps159
 go_wp2_with fail
 refine (heaped_none ao cap w).mono ?_
 rintro e w1 ⟨rfl, hc1, hb1⟩
 go_wp2_with fail
 go_loopw [6] (fun i wr => i = .slice none 0 0 ∧ wr = w1) (fun i _ => 0)
 case atStart => exact ⟨rfl, rfl⟩
 case round =>
  obtain ⟨rfl, rfl⟩ := hrel
  go_wp2_with fail
  refine (places_len _ _ _ _).mono ?_
  rintro e w2 ⟨rfl, rfl⟩
  go_wp2_with fail
  go_ret
  exact ⟨rfl, hb1⟩
def topL (l : List Int) (most : Nat) : List Int := takeTop most (initL l.length (l.length / 2) (pairs l))
theorem topL_nil (most : Nat) : topL [] most = [] := takeTop_nil most
structure Out (B : Nat) (v : Value) (r : List Int) (w : World) : Prop where
 own : w.ownsRow B 3 1 v r.length (intsV r)
 len : sliceLen v = r.length
theorem Out.form {B : Nat} {v : Value} {r : List Int} {w : World} (h : Out B v r w) : ∃ ao c, v = .slice ao r.length c ∧ IntsAt w ao r ∧ (r.length = 0 → v = .slice ao 0 c) ∧ ∀ a, ao = some a → B ≤ a.block := by
 rcases h.own.2 with ⟨e, hn⟩ | ⟨g, cap, cur, hv, hb, hg, _⟩
 ·exact ⟨none, 0, by rw [e, hn], Or.inl (List.eq_nil_of_length_eq_zero hn), fun _ => e, fun a e => by simp at e⟩
 ·subst hv
  refine ⟨_, cap, rfl, Or.inr ⟨g, 0, rfl, (Array.getElem?_eq_some_iff.1 hg).1, fun i hi j x hx => ?_⟩, fun h0 => by rw [h0], fun a e => by simp at e; subst e; exact hb⟩
  have hj : j = 0 := by
   have := (List.getElem?_eq_some_iff.1 hx).1
   simpa using this
  subst hj
  rw [show 0 + i * 1 + 0 = i by omega, h.own.cellAt i (by omega)]
  simpa [intsV, hi] using hx
theorem top_all (ao : Option Addr) (cap : Nat) (l : List Int) (most : Int) (w : World) (hs : IntsAt w ao l) (hl : l.length ≤ 1000000) :
  Calls Tryz.prog 159 #[.slice ao l.length cap, .int .i64 most] w fun e w' => ∃ v, e = .returned v ∧ Out w.heap.size v (topL l most.toNat) w' ∧ Below w.heap.size w w' := by
 by_cases h0 : 0 < l.length
 ·refine (top_any ao cap l most w hs h0 hl).mono ?_
  rintro e w' ⟨v, rfl, h1, h2, h3⟩
  exact ⟨v, rfl, ⟨h1, h2⟩, h3⟩
 ·obtain rfl : l = [] := List.eq_nil_of_length_eq_zero (by omega)
  refine (top_none ao cap most w).mono ?_
  rintro e w' ⟨rfl, h1⟩
  rw [topL_nil]
  exact ⟨_, rfl, ⟨World.ownsRow_nil _ _ _ _, rfl⟩, h1⟩
theorem fullest_all (ao : Option Addr) (cap : Nat) (l : List Int) (w : World) (hs : IntsAt w ao l) (hl : l.length ≤ 1000000) (k : Nat) (hk : topL l 1 = [(k : Int)]) (hkl : k < l.length) :
  Calls Tryz.prog 125 #[.slice ao l.length cap] w fun e w' => e = .returned (if l[k] < 1 then .tuple #[.int .i64 0, .bool false] else .tuple #[.int .i64 k, .bool true]) ∧ Below w.heap.size w w' := by
 go_enter Tryz.func125, Tryz.ntmps125
 go_wp2_with fail
 refine (top_all ao cap l _ w hs hl).mono ?_
 rintro e w1 ⟨v, rfl, h1, h2⟩
 rw [show (1 : Int).toNat = 1 from rfl, hk] at h1
 obtain ⟨ao1, c1, rfl, hr1, _, _⟩ := h1.form
 obtain ⟨b, off, rfl, hb, hc⟩ := hr1.at (by simp)
 have hc0 := hc 0 (by simp) 0 _ rfl
 have hs1 := hs.kept h2 (Nat.le_refl _)
 obtain ⟨b2, off2, rfl, hb2, hc2⟩ := hs1.at (by omega)
 have hck := hc2 k hkl 0 _ rfl
 have hk0 : (0 : Int) ≤ (k : Int) := Int.natCast_nonneg _
 have hk1 : (k : Int) < (l.length : Int) := by omega
 simp only [List.getElem_cons_zero, Nat.add_zero, Nat.mul_one] at hc0 hck
 by_cases h : l[k] < 1
 ·go_wp2_with fail
  go_ret2
  exact ⟨rfl, h2⟩
 ·go_wp2_with fail
  go_ret2
  exact ⟨rfl, h2⟩
open Go.RowKit
theorem ahead_iff (a b : Int × Int) : ahead a b = true ↔ (b.2 < a.2 ∨ (a.2 = b.2 ∧ a.1 < b.1)) := by simp [ahead]
theorem ahead_asymm {a b : Int × Int} (h : ahead a b = true) : ¬ ahead b a = true := by rw [ahead_iff] at *; omega
def Leq (a b : Int × Int) : Prop := ¬ ahead b a = true
theorem Leq.trans {a b c : Int × Int} (h : Leq a b) (k : Leq b c) : Leq a c := by unfold Leq at *; rw [ahead_iff] at *; omega
theorem Leq.refl (a : Int × Int) : Leq a a := by unfold Leq; rw [ahead_iff]; omega
theorem Leq.of {a b : Int × Int} (h : ahead a b = true) : Leq a b := ahead_asymm h
theorem pl_swap (l : List (Int × Int)) (i k j : Nat) (hi : i < l.length) (hk : k < l.length) : pl (swapL l i k) j = if j = k then pl l i else if j = i then pl l k else pl l j := by
 by_cases hj : j < l.length
 ·have hj' : j < (swapL l i k).length := by rw [swapL_length]; exact hj
  rw [pl_get hj', swapL_get l i k j hi hk hj', pl_get hi, pl_get hk, pl_get hj]
 ·rw [if_neg (by omega), if_neg (by omega)]
  simp [pl, List.getD, hj, swapL_length]
theorem childL_best (l : List (Int × Int)) {i n c : Nat} (hc : c < n) (h : c = 2 * i + 1 ∨ c = 2 * i + 2) : Leq (pl l (childL l i n)) (pl l c) := by
 unfold childL
 split
 ·rename_i hh
  rcases h with rfl | rfl
  ·exact Leq.of hh.2
  ·exact Leq.refl _
 ·rename_i hh
  rcases h with rfl | rfl
  ·exact Leq.refl _
  ·exact fun e => hh ⟨hc, e⟩
theorem childL_is (l : List (Int × Int)) (i n : Nat) : childL l i n = 2 * i + 1 ∨ childL l i n = 2 * i + 2 := by unfold childL; split <;> omega
def Heap (k n : Nat) (l : List (Int × Int)) : Prop := ∀ c, c < n → 0 < c → k ≤ (c - 1) / 2 → Leq (pl l ((c - 1) / 2)) (pl l c)
def Hole (k n i : Nat) (l : List (Int × Int)) : Prop :=
 (∀ c, c < n → 0 < c → k ≤ (c - 1) / 2 → (c - 1) / 2 ≠ i → Leq (pl l ((c - 1) / 2)) (pl l c)) ∧
 (0 < i → k ≤ (i - 1) / 2 → ∀ c, c < n → 0 < c → (c - 1) / 2 = i → Leq (pl l ((i - 1) / 2)) (pl l c))
theorem down_heap (k n : Nat) : ∀ (f : Nat) (l : List (Int × Int)) (i : Nat), n ≤ l.length → n ≤ i + f → k ≤ i → Hole k n i l → Heap k n (downL f l i n)
 | 0, l, i, hn, hf, hk, h => by
  intro c hc h0 hkc
  exact h.1 c hc h0 hkc (by omega)
 | f + 1, l, i, hn, hf, hk, h => by
  unfold downL
  split
  ·rename_i h1
   have hcl := childL_lt (l := l) h1
   have hci := childL_is l i n
   have hb := fun c hc e => childL_best l (i := i) (n := n) (c := c) hc e
   generalize childL l i n = m at *
   split
   ·rename_i h2
    refine down_heap k n f _ m (by rw [swapL_length]; exact hn) (by omega) (by omega) ⟨?_, ?_⟩
    ·intro c hc h0 hkc hne
     rw [pl_swap l i m _ (by omega) (by omega), pl_swap l i m _ (by omega) (by omega)]
     by_cases e1 : c = m
     ·subst e1
      have hp : (c - 1) / 2 = i := by omega
      rw [if_pos rfl, if_neg (by omega), if_pos hp]
      exact Leq.of h2
     ·rw [if_neg e1, if_neg hne]
      by_cases e2 : (c - 1) / 2 = i
      ·rw [if_pos e2, if_neg (by omega)]
       exact hb c hc (by omega)
      ·rw [if_neg e2]
       by_cases e3 : c = i
       ·subst e3
        rw [if_pos rfl]
        exact h.2 h0 hkc m hcl.1 (by omega) (by omega)
       ·rw [if_neg e3]
        exact h.1 c hc h0 hkc e2
    ·intro hm0 hkm c hc h0 hp
     have hpm : (m - 1) / 2 = i := by omega
     rw [pl_swap l i m _ (by omega) (by omega), pl_swap l i m _ (by omega) (by omega), hpm, if_neg (by omega), if_pos rfl, if_neg (by omega), if_neg (by omega)]
     have := h.1 c hc h0 (by omega) (by omega)
     rw [hp] at this
     exact this
   ·rename_i h2
    intro c hc h0 hkc
    by_cases e : (c - 1) / 2 = i
    ·rw [e]
     exact Leq.trans h2 (hb c hc (by omega))
    ·exact h.1 c hc h0 hkc e
  ·rename_i h1
   intro c hc h0 hkc
   exact h.1 c hc h0 hkc (by omega)
theorem init_heap (n : Nat) : ∀ (k : Nat) (l : List (Int × Int)), n ≤ l.length → Heap k n l → Heap 0 n (initL n k l)
 | 0, l, _, h => h
 | k + 1, l, hn, h => by
  rw [initL]
  refine init_heap n k _ (by rw [downL_length]; exact hn) (down_heap k n n l k hn (by omega) (Nat.le_refl _) ⟨?_, ?_⟩)
  ·intro c hc h0 hkc hne
   exact h c hc h0 (by omega)
  ·intro h0 hk
   omega
theorem heap_min {n : Nat} {l : List (Int × Int)} (h : Heap 0 n l) : ∀ c, c < n → Leq (pl l 0) (pl l c) := by
 intro c
 induction c using Nat.strongRecOn with
 | ind c ih =>
  intro hc
  by_cases h0 : c = 0
  ·subst h0; exact Leq.refl _
  ·exact Leq.trans (ih ((c - 1) / 2) (by omega) (by omega)) (h c hc (by omega) (Nat.zero_le _))
theorem swapL_perm (l : List (Int × Int)) (i k : Nat) (hi : i < l.length) (hk : k < l.length) : (swapL l i k).Perm l := by
 have h := Array.swap_perm (xs := l.toArray) (i := i) (j := k) (by simpa using hi) (by simpa using hk)
 have h2 := h.toList
 simpa [swapL, Array.swap, hi, hk] using h2
theorem downL_perm : ∀ (f : Nat) (l : List (Int × Int)) (i n : Nat), n ≤ l.length → (downL f l i n).Perm l
 | 0, _, _, _, _ => List.Perm.refl _
 | f + 1, l, i, n, hn => by
  unfold downL
  split
  ·rename_i h1
   have hcl := childL_lt (l := l) h1
   split
   ·exact (downL_perm f _ _ _ (by rw [swapL_length]; exact hn)).trans (swapL_perm l _ _ (by omega) (by omega))
   ·exact List.Perm.refl _
  ·exact List.Perm.refl _
theorem initL_perm (n : Nat) : ∀ (k : Nat) (l : List (Int × Int)), n ≤ l.length → (initL n k l).Perm l
 | 0, _, _ => List.Perm.refl _
 | k + 1, l, hn => (initL_perm n k _ (by rw [downL_length]; exact hn)).trans (downL_perm n l k n hn)
theorem downL_far : ∀ (f : Nat) (l : List (Int × Int)) (i n j : Nat), n ≤ l.length → n ≤ j → pl (downL f l i n) j = pl l j
 | 0, _, _, _, _, _, _ => rfl
 | f + 1, l, i, n, j, hn, hj => by
  unfold downL
  split
  ·rename_i h1
   have hcl := childL_lt (l := l) h1
   split
   ·rw [downL_far f _ _ _ _ (by rw [swapL_length]; exact hn) hj, pl_swap l _ _ _ (by omega) (by omega), if_neg (by omega), if_neg (by omega)]
   ·rfl
  ·rfl
theorem pl_left (r : List (Int × Int)) (x : Int × Int) (j : Nat) (h : j < r.length) : pl (r ++ [x]) j = pl r j := by
 rw [pl_get h, pl_get (by simp; omega), List.getElem_append_left h]
theorem pop_spec {l r : List (Int × Int)} {x : Int × Int} (hh : Heap 0 l.length l) (h : popL l = r ++ [x]) : Heap 0 r.length r ∧ l.Perm (x :: r) ∧ ∀ y ∈ r, Leq x y := by
 have hlen := popL_length l
 have hn : r.length + 1 = l.length := by rw [h] at hlen; simpa using hlen
 have hsp := swapL_perm l 0 (l.length - 1) (by omega) (by omega)
 have hperm : (popL l).Perm l := (downL_perm _ _ _ _ (by rw [swapL_length]; omega)).trans hsp
 have hp2 : l.Perm (x :: r) := by
  rw [h] at hperm
  exact hperm.symm.trans (List.perm_append_singleton _ _)
 have hx : x = pl l 0 := by
  have h1 : pl (popL l) (l.length - 1) = pl l 0 := by
   rw [popL, downL_far _ _ _ _ _ (by rw [swapL_length]; omega) (Nat.le_refl _), pl_swap l _ _ _ (by omega) (by omega), if_pos rfl]
  rw [h, pl_get (by simp; omega)] at h1
  rw [← h1]
  simp [show l.length - 1 = r.length by omega]
 refine ⟨?_, hp2, fun y hy => ?_⟩
 ·have hd := down_heap 0 (l.length - 1) (l.length - 1) (swapL l 0 (l.length - 1)) 0 (by rw [swapL_length]; omega) (by omega) (Nat.le_refl _) ⟨fun c hc h0 _ hne => by
   rw [pl_swap l _ _ _ (by omega) (by omega), pl_swap l _ _ _ (by omega) (by omega), if_neg (by omega), if_neg (by omega), if_neg (by omega), if_neg (by omega)]
   exact hh c (by omega) h0 (Nat.zero_le _), fun h0 => by omega⟩
  intro c hc h0 hk
  have := hd c (by omega) h0 hk
  rw [show downL (l.length - 1) (swapL l 0 (l.length - 1)) 0 (l.length - 1) = r ++ [x] from h, pl_left r x c (by omega), pl_left r x _ (by omega)] at this
  exact this
 ·have hyl : y ∈ l := hp2.symm.subset (List.mem_cons_of_mem _ hy)
  obtain ⟨c, hc, rfl⟩ := List.getElem_of_mem hyl
  rw [hx, ← pl_get hc]
  exact heap_min hh c hc
def takeP : Nat → List (Int × Int) → List (Int × Int)
 | 0, _ => []
 | f + 1, h =>
  match (popL h).getLast? with
  | none => []
  | some x => x :: takeP f (popL h).dropLast
theorem takeTop_eq : ∀ (f : Nat) (h : List (Int × Int)), takeTop f h = (takeP f h).map Prod.fst
 | 0, _ => rfl
 | f + 1, h => by
  rw [takeTop, takeP]
  cases (popL h).getLast? with
  | none => rfl
  | some x => simp [takeTop_eq f]
theorem takeP_go {f : Nat} {h r : List (Int × Int)} {x : Int × Int} (e : popL h = r ++ [x]) : takeP (f + 1) h = x :: takeP f r := by
 rw [takeP, e]; simp
theorem takeP_nil (f : Nat) : takeP f [] = [] := by
 cases f with
 | zero => rfl
 | succ f =>
  have : popL [] = [] := List.eq_nil_of_length_eq_zero (by rw [popL_length]; rfl)
  rw [takeP, this]; rfl
theorem takeP_spec : ∀ (n : Nat) (h : List (Int × Int)), h.length = n → Heap 0 h.length h → (takeP n h).Perm h ∧ (takeP n h).Pairwise Leq
 | 0, h, e, _ => by
  obtain rfl := List.eq_nil_of_length_eq_zero e
  exact ⟨List.Perm.refl _, List.Pairwise.nil⟩
 | n + 1, h, e, hh => by
  obtain ⟨r, x, hp, hl⟩ := popL_some (h := h) (by omega)
  obtain ⟨h1, h2, h3⟩ := pop_spec hh hp
  obtain ⟨i1, i2⟩ := takeP_spec n r (by omega) h1
  rw [takeP_go hp]
  exact ⟨(List.Perm.cons x i1).trans h2.symm, List.Pairwise.cons (fun y hy => h3 y (i1.subset hy)) i2⟩
theorem takeP_take : ∀ (f n : Nat) (h : List (Int × Int)), h.length = n → takeP f h = (takeP n h).take f
 | 0, _, _, _ => by simp [takeP]
 | f + 1, 0, h, e => by
  obtain rfl := List.eq_nil_of_length_eq_zero e
  rw [takeP_nil, takeP_nil]; rfl
 | f + 1, n + 1, h, e => by
  obtain ⟨r, x, hp, hl⟩ := popL_some (h := h) (by omega)
  rw [takeP_go hp, takeP_go hp, List.take_succ_cons, takeP_take f n r (by omega)]
def ordP (l : List Int) : List (Int × Int) := takeP l.length (initL l.length (l.length / 2) (pairs l))
theorem ordP_spec (l : List Int) : (ordP l).Perm (pairs l) ∧ (ordP l).Pairwise Leq := by
 have hl : (initL l.length (l.length / 2) (pairs l)).length = l.length := by rw [initL_length, pairs_length]
 have hh : Heap 0 l.length (initL l.length (l.length / 2) (pairs l)) := init_heap l.length _ _ (by rw [pairs_length]; exact Nat.le_refl _) (fun c hc h0 hk => by omega)
 obtain ⟨h1, h2⟩ := takeP_spec l.length _ hl (by rw [hl]; exact hh)
 exact ⟨h1.trans (initL_perm _ _ _ (by rw [pairs_length]; exact Nat.le_refl _)), h2⟩
theorem topL_eq (l : List Int) (n : Nat) : topL l n = ((ordP l).map Prod.fst).take n := by
 have hl : (initL l.length (l.length / 2) (pairs l)).length = l.length := by rw [initL_length, pairs_length]
 rw [topL, takeTop_eq, takeP_take n l.length _ hl, List.map_take]
 rfl
theorem ordP_length (l : List Int) : (ordP l).length = l.length := by rw [(ordP_spec l).1.length_eq, pairs_length]
open Go.RowKit
open Go.RowKit
attribute [local go_sem ↓] Go.wp_at_zero Go.wp_at_succ
theorem topHead (l : List Int) (h : 0 < l.length) : ∃ k : Nat, k < l.length ∧ ∃ r, (ordP l).map Prod.fst = (k : Int) :: r := by
 have hl := ordP_length l
 match e : ordP l with
 | [] => rw [e] at hl; simp at hl; omega
 | q :: r =>
  have hq : q ∈ pairs l := (ordP_spec l).1.subset (by rw [e]; simp)
  obtain ⟨k, hk, hke⟩ := List.getElem_of_mem hq
  rw [pairs_get] at hke
  rw [pairs_length] at hk
  exact ⟨k, hk, r.map Prod.fst, by rw [List.map_cons, ← hke]⟩
end Go.Proofs.YtafciefjlkdecaaGreat
namespace Go.Proofs.YtafciefjlkdecaaGreat
open Go.RowKit
theorem pairs_mem {C : List Int} {i : Nat} (h : i < C.length) : ((i : Int), C[i]) ∈ pairs C := by
 have h' : i < (pairs C).length := by rwa [pairs_length]
 have := List.getElem_mem h'
 rwa [pairs_get] at this
theorem pairs_inv {C : List Int} {q : Int × Int} (h : q ∈ pairs C) : ∃ (i : Nat) (hi : i < C.length), q = ((i : Int), C[i]) := by
 obtain ⟨i, hi, e⟩ := List.getElem_of_mem h
 rw [pairs_get] at e
 exact ⟨i, by rwa [pairs_length] at hi, e.symm⟩
theorem topL_is {C : List Int} {n : Nat} {t : Int} (h : t ∈ topL C n) : ∃ (k : Nat) (hk : k < C.length), t = k ∧ ((k : Int), C[k]) ∈ (ordP C).take n := by
 rw [topL_eq, ← List.map_take, List.mem_map] at h
 obtain ⟨q, hq, rfl⟩ := h
 obtain ⟨k, hk, rfl⟩ := pairs_inv ((ordP_spec C).1.subset (List.mem_of_mem_take hq))
 exact ⟨k, hk, rfl, hq⟩
theorem topL_best {C : List Int} {n i k : Nat} (hi : i < C.length) (hk : k < C.length) (hin : (k : Int) ∈ topL C n) (hout : (i : Int) ∉ topL C n) : Leq ((k : Int), C[k]) ((i : Int), C[i]) := by
 obtain ⟨k', hk', e, hq⟩ := topL_is hin
 obtain rfl : k = k' := by omega
 have hi' : ((i : Int), C[i]) ∈ ordP C := (ordP_spec C).1.symm.subset (pairs_mem hi)
 rw [← List.take_append_drop n (ordP C)] at hi'
 rcases List.mem_append.1 hi' with h | h
 ·exact absurd (by rw [topL_eq, ← List.map_take, List.mem_map]; exact ⟨_, h, rfl⟩) hout
 ·have hp := (ordP_spec C).2
  rw [← List.take_append_drop n (ordP C), List.pairwise_append] at hp
  exact hp.2.2 _ hq _ h
theorem topL_not {C : List Int} {n i k : Nat} (hi : i < C.length) (hk : k < C.length) (hin : (k : Int) ∈ topL C n) (hout : (i : Int) ∉ topL C n) : C[i] ≤ C[k] ∧ (C[i] = C[k] → k ≤ i) := by
 have h := topL_best hi hk hin hout
 unfold Leq at h
 rw [ahead_iff] at h
 simp only at h
 omega
theorem top_one (C : List Int) (h : 0 < C.length) : ∃ k : Nat, ∃ hk : k < C.length, topL C 1 = [(k : Int)] ∧ ∀ x ∈ C, x ≤ C[k] := by
 obtain ⟨k, hk, r, hr⟩ := topHead C h
 refine ⟨k, hk, by rw [topL_eq, hr]; rfl, fun x hx => ?_⟩
 obtain ⟨i, hi, rfl⟩ := List.getElem_of_mem hx
 by_cases e : (i : Int) ∈ topL C 1
 ·rw [topL_eq, hr] at e
  simp at e
  obtain rfl : i = k := by omega
  exact Int.le_refl _
 ·exact (topL_not hi hk (by rw [topL_eq, hr]; simp) e).1
open Go.RowKit
theorem slU_row {w : World} {B n : Nat} {E : TypeId} {v : Value} {l : List Upd} (h : w.ownsRow B E 4 v n (cellsU l)) : l.length = n ∧ SlU w v l := by
 have hn := h.1
 rw [cellsU_len] at hn
 have hn' : l.length = n := by omega
 subst hn'
 refine ⟨rfl, ?_⟩
 rcases ownsRow_open h with ⟨rfl, h0, -⟩ | ⟨g, cap, cur, rfl, -, hr, h3, h4, h5, h6⟩
 ·obtain rfl := List.eq_nil_of_length_eq_zero h0
  exact SlU.nil w
 ·refine ⟨_, cap, rfl, Or.inr ⟨g, 0, rfl, hr.lt, fun i hi j x hx => ?_⟩, h3, by unfold maxLen at h4; omega, fun e => by simp at e⟩
  have hj : j < 4 := (List.getElem?_eq_some_iff.1 hx).1
  have e := cellsU_get l i hi j x hx
  rw [hr.cell, Nat.zero_add, ← e, ← h6, List.getElem?_take, if_pos (by omega)]
theorem BoxU.slice {w : World} {a : Option Addr} {n c : Nat} {l : List Upd} (h : BoxU w (.agg #[.slice a n c]) l) : SlU w (.slice a n c) l := by
 obtain ⟨s, e, hs⟩ := h
 simp only [Value.agg.injEq, Array.mk.injEq, List.cons.injEq, and_true] at e
 rw [e]; exact hs
theorem cutIn_le {l : List Upd} (hr : Rising Upd.key l) (low high : List UInt8) : (cutIn l low high).length ≤ l.length := by
 rw [(cut_filter hr low high).1]; exact List.length_filter_le _ _
theorem cut_next (a : Option Addr) (n c : Nat) (l : List Upd) (low high : List UInt8) (w : World) (hn : n = l.length) (h : BoxU w (.agg #[.slice a n c]) l) (hl : l.length ≤ 1000) (hr : Rising Upd.key l) :
  Calls Tryz.prog 78 #[.agg #[.slice a n c], .string (S low), .string (S high)] w fun e w' => (∃ a1 c1 a2 c2, e = .returned (.tuple #[.agg #[.slice a1 (cutIn l low high).length c1], .agg #[.slice a2 (cutOut l low high).length c2]]) ∧ BoxU w' (.agg #[.slice a1 (cutIn l low high).length c1]) (cutIn l low high) ∧ BoxU w' (.agg #[.slice a2 (cutOut l low high).length c2]) (cutOut l low high)) ∧ Below w.heap.size w w' := by
 subst hn
 refine (cut_any _ l low high w h (by omega) hr).mono ?_
 rintro e w' ⟨⟨v1, v2, he, h1, h2⟩, hb⟩
 obtain ⟨a1, c1, rfl, h1'⟩ := h1.open
 obtain ⟨a2, c2, rfl, h2'⟩ := h2.open
 exact ⟨⟨a1, c1, a2, c2, he, h1', h2'⟩, hb⟩
theorem lenU_next (a : Option Addr) (n c : Nat) (w : World) :
  Calls Tryz.prog 63 #[.agg #[.slice a n c]] w fun e w' => e = .returned (.int .i64 n) ∧ Below w.heap.size w w' := by
 go_enter Tryz.func63, Tryz.ntmps63
 go_wp2
 go_ret
 exact ⟨rfl, by go_grown⟩
theorem cell_four_at (w : World) (g : Nat) (hg : w.heap.size = g) (x y z u : Value) (t : TypeId) : ∀ j v, [x, y, z, u][j]? = some v → (w.alloc (.cells #[x, y, z, u] t)).cell? ((⟨g, 0, none⟩ : Addr).add j) = some v := by
 subst hg; exact cell_four_new _ _ _ _ _ _
theorem kid_oneCell (a : ByteArray) (x y z : Int) : ∀ u ∈ [Value.string a, .int .i64 x, .int .u64 y, .int .u32 z], u.oneCell' = true := by
 intro u hu
 simp only [List.mem_cons, List.not_mem_nil, or_false] at hu
 rcases hu with rfl | rfl | rfl | rfl <;> rfl
open Go.RowKit
attribute [local go_sem ↓] Go.wp_at_zero Go.wp_at_succ
def cntAt (cs : List Chd) (us : List Upd) : List Int := (List.range cs.length).map fun (i : Nat) => ((us.filter fun u => chOf cs u.key = (i : Int)).length : Int)
theorem cntAt_len (cs : List Chd) (us : List Upd) : (cntAt cs us).length = cs.length := by simp [cntAt]
theorem cntAt_get (cs : List Chd) (us : List Upd) (i : Nat) (hi : i < (cntAt cs us).length) : (cntAt cs us)[i] = ((us.filter fun u => chOf cs u.key = (i : Int)).length : Int) := by simp [cntAt]
theorem cntAt_nil (cs : List Chd) : cntAt cs [] = List.replicate cs.length 0 := by
 apply List.ext_getElem
 ·simp [cntAt]
 ·intro i h1 h2; simp [cntAt]
theorem cntAt_none {cs : List Chd} {us : List Upd} {u : Upd} (h : chOf cs u.key < 0) : cntAt cs (us ++ [u]) = cntAt cs us := by
 apply List.ext_getElem
 ·simp [cntAt]
 ·intro i h1 h2
  rw [cntAt_get, cntAt_get, List.filter_append, List.filter_cons_of_neg (by simp; omega)]
  simp
theorem cntAt_some {cs : List Chd} {us : List Upd} {u : Upd} {k : Nat} (h : chOf cs u.key = k) (hk : k < (cntAt cs us).length) : cntAt cs (us ++ [u]) = (cntAt cs us).set k ((cntAt cs us)[k] + 1) := by
 apply List.ext_getElem
 ·simp [cntAt]
 ·intro i h1 h2
  rw [cntAt_get, List.getElem_set]
  by_cases e : k = i
  ·subst e
   rw [if_pos rfl, cntAt_get, List.filter_append, List.filter_cons_of_pos (by simpa using h)]
   simp
  ·rw [if_neg e, cntAt_get, List.filter_append, List.filter_cons_of_neg (by simp; omega)]
   simp
theorem cntAt_le (cs : List Chd) (us : List Upd) (i : Nat) (hi : i < (cntAt cs us).length) : 0 ≤ (cntAt cs us)[i] ∧ (cntAt cs us)[i] ≤ us.length := by
 rw [cntAt_get]
 exact ⟨by omega, by have := List.length_filter_le (fun u : Upd => decide (chOf cs u.key = (i : Int))) us; omega⟩
theorem made_zero (n : Nat) : (madeCells (Value.int .i64 0).cells (n * 1)).toList = intsV (List.replicate n 0) := by
 rw [Nat.mul_one]
 apply List.ext_getElem
 ·simp [madeCells, intsV]
 ·intro i h1 h2
  simp [madeCells, intsV, Value.cells, Nat.mod_one]
theorem intsV_set (l : List Int) (k : Nat) (x : Int) : (intsV l).set k (.int .i64 x) = intsV (l.set k x) := by simp [intsV, List.map_set]
theorem take_succ_u (us : List Upd) (j : Nat) (h : j < us.length) : us.take (j + 1) = us.take j ++ [us[j]] := List.take_succ_eq_append_getElem h
theorem counts_any (v : Value) (cs : List Chd) (us : List Upd) (w : World) (h : NodeAt w v cs us) (hl : cs.length ≤ 1000) (hu : us.length ≤ 1000) :
  Calls Tryz.prog 126 #[v] w fun e w' => (∃ v', e = .returned v' ∧ Out w.heap.size v' (cntAt cs us) w') ∧ Below w.heap.size w w' := by
 obtain ⟨i0, hi, iz0, iz1, iz2⟩ := info_parts int_info
 obtain ⟨a, b, x, y, rfl, h1, h2⟩ := h
 have HN := Lib.hid (show NodeAt w (.agg #[.slice a cs.length x, .slice b us.length y]) cs us from ⟨a, b, x, y, rfl, h1, h2⟩)
 have HU := Lib.hid h2
 clear h1 h2
 go_enter Tryz.func126, Tryz.ntmps126
 go_wp2_with (at_make; refine wpList_make_full _ rfl _ _ 55 rfl (w.heap.size + 1) 3 i0 (.int .i64 0) 1 Tryz.underlying55 hi iz0 iz1 .i64 .i64 _ _ cs.length rfl rfl rfl rfl (by rw [iz2]; omega) (by unfold maxLen; omega) (by simp) ?_; intro w1 hown1 hg1; have p0 : w1.cell? ⟨w.heap.size, 0, none⟩ = some (.slice a cs.length x) := hg1.cell (by simp) (by simp); have p1 : w1.cell? ⟨w.heap.size, 1, none⟩ = some (.slice b us.length y) := hg1.cell (by simp) (by simp))
 rw [made_zero, ← cntAt_nil, World.size_alloc] at hown1
 have hsz1 : w.heap.size + 1 ≤ w1.heap.size := by have := hg1.size; simp at this; omega
 have hB1 : Below w.heap.size w w1 := below_grown_new hg1 (fun k e => by simp at e)
 have HOW := Lib.hid hown1
 have HG1 := Lib.hid hg1
 clear hown1 hg1
 refine (thread (listU _ us _ (BoxU.mk ⟨_, rfl, HU.out.kept hB1 (Nat.le_refl _)⟩) (by omega)) w1.heap.size w1 (by go_grown) (by go_grown)).mono ?_
 rintro e w2 ⟨⟨v', rfl, ho2⟩, hX2, -, -, -, hz2⟩
 obtain ⟨al, cl, rfl⟩ := own_form ho2
 have c0 := kept_cell hX2 p0
 have c1 := kept_cell hX2 p1
 have hlt1 : w.heap.size + 1 < w1.heap.size := (HOW.out.lt _ rfl).2
 have HO2 := Lib.hid (own_below HOW.out hX2)
 have HL := Lib.hid ho2
 have hB2 := hB1.trans (hX2.mono hB1.size)
 have HC := Lib.hid (And.intro c0 c1)
 have HB2 := Lib.hid hB2
 clear ho2 hX2 p0 p1 HOW HG1 hB1 c0 c1 hB2
 go_wp2_with fail
 go_loopw [15] (fun i wr => ∃ j : Nat, i = .int .i64 j ∧ j ≤ us.length ∧ Hid (wr.ownsRow (w.heap.size + 1) 3 1 (.slice (some ⟨w.heap.size + 1, 0, none⟩) cs.length cs.length) cs.length (intsV (cntAt cs (us.take j)))) ∧ w2.grownBy wr (some (w.heap.size + 1))) (fun i _ => us.length - (intOf i).toNat)
 case atStart => exact ⟨0, rfl, Nat.zero_le _, HO2, World.grownBy.refl _ _⟩
 case round =>
  obtain ⟨j, rfl, hj, HO, hg⟩ := hrel
  have hj0 : (0 : Int) ≤ (j : Int) := Int.natCast_nonneg _
  have hBw : Below w.heap.size w wr := below_grown HB2.out hg (fun k e => by injection e with e; omega) HB2.out.size
  have hzw := hg.size
  by_cases hjl : j < us.length
  ·have hj1 : (j : Int) < (us.length : Int) := by omega
   have hrow := HL.out.kept hg (by
    cases hx : (Value.slice al us.length cl).ownBlock with
    | none => exact Or.inl rfl
    | some g => exact Or.inr fun e => by have h1 := (HL.out.lt g hx).1; injection e with e; omega)
   obtain ⟨b0, off, rfl, hb, q0, q1, q2, q3⟩ := (slU_row hrow).2.cells4 j hjl
   have c0 := hg.cell HC.out.1 (by simp)
   have c1 := hg.cell HC.out.2 (by simp)
   have HT := Lib.hid (take_succ_u us j hjl)
   have HNr := Lib.hid (HN.out.kept hBw (Nat.le_refl _))
   have HBw := Lib.hid hBw
   have HGr := Lib.hid hg
   clear hrow hBw hg
   have hlen := cntAt_len cs (us.take j)
   have hcl := fun (i : Nat) h => cntAt_le cs (us.take j) i h
   have hcn := fun (h : chOf cs us[j].key < 0) => cntAt_none (cs := cs) (us := us.take j) (u := us[j]) h
   have hcs := fun (k : Nat) (h : chOf cs us[j].key = (k : Int)) hk => cntAt_some (cs := cs) (us := us.take j) (u := us[j]) (k := k) h hk
   rw [← HT.out] at hcn hcs
   have HLEN := Lib.hid hlen
   have HCL := Lib.hid hcl
   have HCN := Lib.hid hcn
   have HCS := Lib.hid hcs
   have htl : (us.take j).length ≤ 1000 := by rw [List.length_take]; omega
   clear hlen hcl hcn hcs
   generalize us[j] = u at *
   have c0' := cell_past (.cells #[.int .u8 u.kind, .string (S u.key), .string (S u.val), .int .u64 u.delta] 39) c0
   have c1' := cell_past (.cells #[.int .u8 u.kind, .string (S u.key), .string (S u.val), .int .u64 u.delta] 39) c1
   go_wp2_with fail
   refine (thread (child_any _ cs us u.key _ (HNr.out.kept (by go_grown) (Nat.le_refl _)) hl) wr.heap.size wr (by go_grown) (by go_grown)).mono ?_
   rintro e w3 ⟨rfl, hX3, -, -, hs3, hz3⟩
   obtain ⟨hq1, hq2⟩ := chAt_lt cs u.key cs.length
   have hcq : chOf cs u.key = chAt cs u.key cs.length := rfl
   have hg3 := grown_trans' HGr.out (grown_of_below (row := some (w.heap.size + 1)) hX3)
   have HO3 := Lib.hid (own_below HO.out hX3)
   rw [← hcq] at hq1 hq2
   clear hcq q0 q1 q2 q3 c0 c1 c0' c1'
   by_cases hneg : chOf cs u.key < 0
   ·have HE := Lib.hid (HCN.out hneg)
    have hd : decide (0 ≤ chOf cs u.key) = false := by simpa using hneg
    generalize chOf cs u.key = q at *
    go_wp2_with fail
    go_roundw
    (case rel => exact ⟨j + 1, by go_num, by omega, by rw [HE.out]; exact HO3, hg3⟩)
    (case measure => first | (simp [intOf]; done) | (simp [intOf]; omega))
   ·obtain ⟨q, hq⟩ : ∃ q : Nat, chOf cs u.key = (q : Int) := ⟨(chOf cs u.key).toNat, by omega⟩
    have hql : q < (cntAt cs (us.take j)).length := by rw [HLEN.out]; omega
    have HE := Lib.hid (HCS.out q hq hql)
    obtain ⟨hv1, hv2⟩ := HCL.out q hql
    rw [hq] at hq1 hq2 hneg
    rw [hq]
    have hq0 : (0 : Int) ≤ (q : Int) := Int.natCast_nonneg _
    have hd : decide ((0 : Int) ≤ (q : Int)) = true := by simp
    have r0 : w3.cell? ⟨w.heap.size + 1, q, none⟩ = some (.int .i64 (cntAt cs (us.take j))[q]) := by
     rw [HO3.out.cellAt q (by omega)]
     simp [intsV, hql]
    have r1 : w3.frozen? ⟨w.heap.size + 1, q, none⟩ = false := HO3.out.frozenAt q
    have hst := HO3.out.stored q (.int .i64 ((cntAt cs (us.take j))[q] + 1))
    have hst1 := hst.1
    rw [intsV_set, ← HE.out] at hst1
    have HST := Lib.hid (And.intro hst1 (grown_trans' hg3 hst.2))
    clear hst hst1 hq HO3 HE HCS HCN hg3 hX3
    have hu2 : (cntAt cs (us.take j))[q] ≤ 1000 := by omega
    generalize (cntAt cs (us.take j))[q] = z at *
    go_wp2_with fail
    go_roundw
    (case rel => exact ⟨j + 1, by go_num, by omega, Lib.hid HST.out.1, HST.out.2⟩)
    (case measure => first | (simp [intOf]; done) | (simp [intOf]; omega))
  ·obtain rfl : j = us.length := by omega
   have HO' := Lib.hid (show Out w.heap.size (.slice (some ⟨w.heap.size + 1, 0, none⟩) cs.length cs.length) (cntAt cs us) wr from ⟨by have h := HO.out; rw [List.take_length] at h; rw [cntAt_len]; exact own_base h (by omega), by rw [cntAt_len]; rfl⟩)
   go_wp2_with fail
   go_ret
   exact ⟨⟨_, rfl, HO'.out⟩, hBw⟩
open Go.RowKit
attribute [local go_sem ↓] Go.wp_at_zero Go.wp_at_succ
theorem step_none (v : Value) (cs : List Chd) (us : List Upd) (w : World) (h : NodeAt w v cs us) (hl : cs.length ≤ 1000) (hu : us.length ≤ 1000) (k : Nat) (hk : topL (cntAt cs us) 1 = [(k : Int)]) (hkl : k < (cntAt cs us).length) (hc : (cntAt cs us)[k] < 1) :
  Calls Tryz.prog 91 #[v] w fun e w' => e = .returned (.tuple #[.int .i64 0, .agg #[.slice none 0 0], .agg #[.slice none 0 0, .slice none 0 0], .bool false]) ∧ Below w.heap.size w w' := by
 obtain ⟨a, b, x, y, rfl, h1, h2⟩ := h
 have HN := Lib.hid (show NodeAt w (.agg #[.slice a cs.length x, .slice b us.length y]) cs us from ⟨a, b, x, y, rfl, h1, h2⟩)
 have HF := Lib.hid (fun ao cap W h => fullest_all ao cap (cntAt cs us) W h (by rw [cntAt_len]; omega) k hk hkl)
 rw [if_pos hc] at HF
 clear h1 h2 hc hk
 go_enter Tryz.func91, Tryz.ntmps91
 go_wp2_with fail
 refine (thread (counts_any _ cs us _ (HN.out.kept (by go_grown) (Nat.le_refl _)) hl hu) w.heap.size w (by go_grown) (by go_grown)).mono ?_
 rintro e w1 ⟨⟨v1, rfl, hO⟩, hB1, hk1, hf1, hs1, hz1⟩
 obtain ⟨ao, c, rfl, hI, -, -⟩ := hO.form
 have HI := Lib.hid hI
 clear hO hI
 go_wp2_with fail
 refine (thread (HF.out ao c _ HI.out) w.heap.size w hB1 hz1).mono ?_
 rintro e w2 ⟨rfl, hB2, hk2, hf2, hs2, hz2⟩
 simp at hs1
 have c3 : w2.cell? ⟨w.heap.size + 1, 0, none⟩ = some (.slice none 0 0) := (hk2 _ 0 (by omega)).trans ((hk1 (w.heap.size + 1) 0 (by simp)).trans (by rw [World.cell?_alloc_past _ _ _ (by simp), World.cell?_alloc_at _ _ _ _ (by simp)]; rfl))
 have c4 : w2.cell? ⟨w.heap.size + 1 + 1, 0, none⟩ = some (.slice none 0 0) := (hk2 _ 0 (by omega)).trans ((hk1 (w.heap.size + 1 + 1) 0 (by simp)).trans (by rw [World.cell?_alloc_at _ _ _ _ (by simp)]; rfl))
 have c5 : w2.cell? ⟨w.heap.size + 1 + 1, 1, none⟩ = some (.slice none 0 0) := (hk2 _ 1 (by omega)).trans ((hk1 (w.heap.size + 1 + 1) 1 (by simp)).trans (by rw [World.cell?_alloc_at _ _ _ _ (by simp)]; rfl))
 have f3 : w2.frozen? ⟨w.heap.size + 1, 0, none⟩ = false := (hf2 _ 0 (by omega)).trans ((hf1 (w.heap.size + 1) 0 (by simp)).trans (by rw [World.frozen?_alloc_past _ _ _ (by simp), World.frozen?_alloc_at _ _ _ _ (by simp)]))
 have f4 : w2.frozen? ⟨w.heap.size + 1 + 1, 0, none⟩ = false := (hf2 _ 0 (by omega)).trans ((hf1 (w.heap.size + 1 + 1) 0 (by simp)).trans (by rw [World.frozen?_alloc_at _ _ _ _ (by simp)]))
 have f5 : w2.frozen? ⟨w.heap.size + 1 + 1, 1, none⟩ = false := (hf2 _ 1 (by omega)).trans ((hf1 (w.heap.size + 1 + 1) 1 (by simp)).trans (by rw [World.frozen?_alloc_at _ _ _ _ (by simp)]))
 clear hk1 hf1 hk2 hf2 hB1
 go_wp2_with fail
 refine bodyPost_ret (v := .tuple #[.int .i64 0, .agg #[.slice none 0 0], .agg #[.slice none 0 0, .slice none 0 0], .bool false]) ?_ rfl ⟨rfl, ?_⟩
 ·simp [results, Tryz.results91, go_sem, c3, c4, c5]
 ·exact (((hB2.setCell (p := ⟨w.heap.size + 1, 0, none⟩) (by simp) _).setCell (p := ⟨w.heap.size + 1 + 1, 0, none⟩) (by simp; omega) _).setCell (p := ⟨w.heap.size + 1 + 1, 1, none⟩) (by simp; omega) _)
theorem step_some (v : Value) (cs : List Chd) (us : List Upd) (w : World) (h : NodeAt w v cs us) (hl : cs.length ≤ 1000) (hu : us.length ≤ 1000) (hr : Rising Upd.key us) (k : Nat) (hk : topL (cntAt cs us) 1 = [(k : Int)]) (hkl : k < (cntAt cs us).length) (hc : ¬ (cntAt cs us)[k] < 1) :
  Calls Tryz.prog 91 #[v] w fun e w' => (∃ a1 y1 nv, e = .returned (.tuple #[.int .i64 k, .agg #[.slice a1 (cutIn us (rngLow cs k) (rngHigh cs k)).length y1], nv, .bool true]) ∧ BoxU w' (.agg #[.slice a1 (cutIn us (rngLow cs k) (rngHigh cs k)).length y1]) (cutIn us (rngLow cs k) (rngHigh cs k)) ∧ NodeAt w' nv cs (cutOut us (rngLow cs k) (rngHigh cs k))) ∧ Below w.heap.size w w' := by
 obtain ⟨a, b, x, y, rfl, h1, h2⟩ := h
 have HN := Lib.hid (show NodeAt w (.agg #[.slice a cs.length x, .slice b us.length y]) cs us from ⟨a, b, x, y, rfl, h1, h2⟩)
 have HU := Lib.hid h2
 have HCH := Lib.hid h1
 have HF := Lib.hid (fun ao cap W h => fullest_all ao cap (cntAt cs us) W h (by rw [cntAt_len]; omega) k hk hkl)
 rw [if_neg hc] at HF
 have hkc : k < 1000 := by rw [cntAt_len] at hkl; omega
 have HR := Lib.hid hr
 clear h1 h2 hc hk hr hkl
 go_enter Tryz.func91, Tryz.ntmps91
 go_wp2_with fail
 refine (thread (counts_any _ cs us _ (HN.out.kept (by go_grown) (Nat.le_refl _)) hl hu) w.heap.size w (by go_grown) (by go_grown)).mono ?_
 rintro e w1 ⟨⟨v1, rfl, hO⟩, hB1, hk1, hf1, hs1, hz1⟩
 obtain ⟨ao, c, rfl, hI, -, -⟩ := hO.form
 have HI := Lib.hid hI
 clear hO hI
 go_wp2_with fail
 refine (thread (HF.out ao c _ HI.out) w.heap.size w hB1 hz1).mono ?_
 rintro e w2 ⟨rfl, hB2, hk2, hf2, hs2, hz2⟩
 simp at hs1
 have c0 : w2.cell? ⟨w.heap.size, 0, none⟩ = some (.slice a cs.length x) := (hk2 _ 0 (by omega)).trans ((hk1 (w.heap.size) 0 (by simp <;> omega)).trans (by rw [World.cell?_alloc_past _ _ _ (by simp <;> omega), World.cell?_alloc_past _ _ _ (by simp <;> omega), World.cell?_alloc_at _ _ _ _ (by simp)]; rfl))
 have f0 : w2.frozen? ⟨w.heap.size, 0, none⟩ = false := (hf2 _ 0 (by omega)).trans ((hf1 (w.heap.size) 0 (by simp <;> omega)).trans (by rw [World.frozen?_alloc_past _ _ _ (by simp <;> omega), World.frozen?_alloc_past _ _ _ (by simp <;> omega), World.frozen?_alloc_at _ _ _ _ (by simp)]))
 have c1 : w2.cell? ⟨w.heap.size, 1, none⟩ = some (.slice b us.length y) := (hk2 _ 1 (by omega)).trans ((hk1 (w.heap.size) 1 (by simp <;> omega)).trans (by rw [World.cell?_alloc_past _ _ _ (by simp <;> omega), World.cell?_alloc_past _ _ _ (by simp <;> omega), World.cell?_alloc_at _ _ _ _ (by simp)]; rfl))
 have f1 : w2.frozen? ⟨w.heap.size, 1, none⟩ = false := (hf2 _ 1 (by omega)).trans ((hf1 (w.heap.size) 1 (by simp <;> omega)).trans (by rw [World.frozen?_alloc_past _ _ _ (by simp <;> omega), World.frozen?_alloc_past _ _ _ (by simp <;> omega), World.frozen?_alloc_at _ _ _ _ (by simp)]))
 have c3 : w2.cell? ⟨w.heap.size + 1, 0, none⟩ = some (.slice none 0 0) := (hk2 _ 0 (by omega)).trans ((hk1 (w.heap.size + 1) 0 (by simp <;> omega)).trans (by rw [World.cell?_alloc_past _ _ _ (by simp <;> omega), World.cell?_alloc_at _ _ _ _ (by simp)]; rfl))
 have f3 : w2.frozen? ⟨w.heap.size + 1, 0, none⟩ = false := (hf2 _ 0 (by omega)).trans ((hf1 (w.heap.size + 1) 0 (by simp <;> omega)).trans (by rw [World.frozen?_alloc_past _ _ _ (by simp <;> omega), World.frozen?_alloc_at _ _ _ _ (by simp)]))
 have c4 : w2.cell? ⟨w.heap.size + 1 + 1, 0, none⟩ = some (.slice none 0 0) := (hk2 _ 0 (by omega)).trans ((hk1 (w.heap.size + 1 + 1) 0 (by simp <;> omega)).trans (by rw [World.cell?_alloc_at _ _ _ _ (by simp)]; rfl))
 have f4 : w2.frozen? ⟨w.heap.size + 1 + 1, 0, none⟩ = false := (hf2 _ 0 (by omega)).trans ((hf1 (w.heap.size + 1 + 1) 0 (by simp <;> omega)).trans (by rw [World.frozen?_alloc_at _ _ _ _ (by simp)]))
 have c5 : w2.cell? ⟨w.heap.size + 1 + 1, 1, none⟩ = some (.slice none 0 0) := (hk2 _ 1 (by omega)).trans ((hk1 (w.heap.size + 1 + 1) 1 (by simp <;> omega)).trans (by rw [World.cell?_alloc_at _ _ _ _ (by simp)]; rfl))
 have f5 : w2.frozen? ⟨w.heap.size + 1 + 1, 1, none⟩ = false := (hf2 _ 1 (by omega)).trans ((hf1 (w.heap.size + 1 + 1) 1 (by simp <;> omega)).trans (by rw [World.frozen?_alloc_at _ _ _ _ (by simp)]))
 have hs2' : w.heap.size + 3 ≤ w2.heap.size := by omega
 clear hk1 hf1 hk2 hf2 hB1 HF HI hs1 hs2 hz1
 have hcu := fun W h => cut_next b _ y us (rngLow cs (k : Int)) (rngHigh cs (k : Int)) W rfl h hu HR.out
 have HCU := Lib.hid hcu
 have hra := fun W h => range_any (.agg #[.slice a cs.length x, .slice b us.length y]) cs us (k : Int) W h hl (by omega)
 have HRA := Lib.hid hra
 clear hcu hra
 generalize hlo : rngLow cs (k : Int) = lo at *
 generalize hhi : rngHigh cs (k : Int) = hi at *
 have HLO := Lib.hid hlo
 have HHI := Lib.hid hhi
 clear hlo hhi
 generalize hI : cutIn us lo hi = I at *
 generalize hO : cutOut us lo hi = O at *
 have HI := Lib.hid hI
 have HO := Lib.hid hO
 clear hI hO
 go_upto_region 5 with (fail)
 obtain ⟨W, hW⟩ : ∃ W, W = w2.alloc (.cells #[.slice none 0 0] 103) := ⟨_, rfl⟩
 rw [← hW]
 have d0 : W.cell? ⟨w.heap.size, 0, none⟩ = some (.slice a cs.length x) := by rw [hW]; exact cell_past _ c0
 have d1 : W.cell? ⟨w.heap.size, 1, none⟩ = some (.slice b us.length y) := by rw [hW]; exact cell_past _ c1
 have d8 : W.cell? ⟨w2.heap.size, 0, none⟩ = some (.slice none 0 0) := by rw [hW]; simp
 have g0 : W.frozen? ⟨w.heap.size, 0, none⟩ = false := by rw [hW, World.frozen?_alloc_past _ _ _ (by omega)]; exact f0
 have g1 : W.frozen? ⟨w.heap.size, 1, none⟩ = false := by rw [hW, World.frozen?_alloc_past _ _ _ (by omega)]; exact f1
 have g8 : W.frozen? ⟨w2.heap.size, 0, none⟩ = false := by rw [hW]; simp
 have hWs : w2.heap.size < W.heap.size := by rw [hW]; simp
 have hWB : Below w2.heap.size w2 W := by rw [hW]; exact (Below.refl _ _).alloc (Nat.le_refl _) _
 have HNW := Lib.hid (HN.out.kept (hB2.trans (hWB.mono (by omega))) (Nat.le_refl _))
 have HUW := Lib.hid (HU.out.kept (hB2.trans (hWB.mono (by omega))) (Nat.le_refl _))
 clear hW
 go_cut [19] (fun _ wx => ∃ a1 y1 a2 y2, wx.cell? ⟨w.heap.size, 0, none⟩ = some (.slice a cs.length x) ∧ wx.cell? ⟨w.heap.size, 1, none⟩ = some (.slice a2 O.length y2) ∧ wx.cell? ⟨w2.heap.size, 0, none⟩ = some (.slice a1 I.length y1) ∧ Hid (BoxU wx (.agg #[.slice a1 I.length y1]) I ∧ BoxU wx (.agg #[.slice a2 O.length y2]) O) ∧
  wx.frozen? ⟨w.heap.size, 0, none⟩ = false ∧ w2.heap.size < wx.heap.size ∧ (∀ b o, b < w2.heap.size → b ≠ w.heap.size → wx.cell? ⟨b, o, none⟩ = w2.cell? ⟨b, o, none⟩) ∧ (∀ b o, b < w2.heap.size → wx.frozen? ⟨b, o, none⟩ = w2.frozen? ⟨b, o, none⟩) ∧ Below w.heap.size w2 wx)
 case first =>
  go_region_law (first
   | (go_simp; go_at_call 76; refine (HRA.out _ (HNW.out.kept (by go_grown) (Nat.le_refl _))).mono ?_; rintro e w4 ⟨rfl, hb4⟩; have X4 := Lib.hid ((below_drew' (Below.refl W.heap.size W)).trans hb4); have y1 := kept_cell hb4 (cell_drew d1); clear hb4)
   | (go_simp; go_at_call 78; refine (HCU.out _ (BoxU.mk ⟨_, rfl, HUW.out.kept X4.out (Nat.le_refl _)⟩)).mono ?_; rintro e w5 ⟨⟨a1, z1, a2, z2, rfl, hi5, ho5⟩, hb5⟩; have X5 := Lib.hid (X4.out.trans (hb5.mono X4.out.size)); have HB5 := Lib.hid (And.intro hi5 ho5); have q0 := kept_cell X5.out d0; have q1 := kept_cell X5.out d1; have q8 := kept_cell X5.out d8; have r0 := ((bcell X5.out).2 w.heap.size 0 (by omega)).trans g0; have r1 := ((bcell X5.out).2 w.heap.size 1 (by omega)).trans g1; have r8 := ((bcell X5.out).2 w2.heap.size 0 (by omega)).trans g8; clear hb5 hi5 ho5))
  all_goals
   obtain ⟨wx, hwx⟩ : ∃ wx, wx = (w5.setCell ⟨w2.heap.size, 0, none⟩ (.slice a1 I.length z1)).setCell ⟨w.heap.size, 1, none⟩ (.slice a2 O.length z2) := ⟨_, rfl⟩
   rw [← hwx]
   have q1' : (w5.setCell ⟨w2.heap.size, 0, none⟩ (.slice a1 I.length z1)).cell? ⟨w.heap.size, 1, none⟩ = some (.slice b us.length y) := (World.cell?_setCell_other _ _ _ _ (addr_ne (Or.inl (by omega)))).trans q1
   have s0 : wx.cell? ⟨w.heap.size, 0, none⟩ = some (.slice a cs.length x) := by rw [hwx, World.cell?_setCell_other _ _ _ _ (addr_ne (Or.inr (by omega))), World.cell?_setCell_other _ _ _ _ (addr_ne (Or.inl (by omega)))]; exact q0
   have s1 : wx.cell? ⟨w.heap.size, 1, none⟩ = some (.slice a2 O.length z2) := by rw [hwx]; exact World.cell?_setCell_same _ _ _ q1'
   have s8 : wx.cell? ⟨w2.heap.size, 0, none⟩ = some (.slice a1 I.length z1) := by rw [hwx, World.cell?_setCell_other _ _ _ _ (addr_ne (Or.inl (by omega)))]; exact World.cell?_setCell_same _ _ _ q8
   have HB := Lib.hid (show BoxU wx (.agg #[.slice a1 I.length z1]) I ∧ BoxU wx (.agg #[.slice a2 O.length z2]) O from by rw [hwx]; exact ⟨(HB5.out.1.setAt q8 _).setAt q1' _, (HB5.out.2.setAt q8 _).setAt q1' _⟩)
   have t0 : wx.frozen? ⟨w.heap.size, 0, none⟩ = false := by rw [hwx, World.frozen?_setCell, World.frozen?_setCell]; exact r0
   have hsx : w2.heap.size < wx.heap.size := by rw [hwx, World.size_setCell, World.size_setCell]; exact Nat.lt_of_lt_of_le hWs X5.out.size
   have hk : ∀ b o, b < w2.heap.size → b ≠ w.heap.size → wx.cell? ⟨b, o, none⟩ = w2.cell? ⟨b, o, none⟩ := fun b o hb hne => by
    rw [hwx, World.cell?_setCell_other _ _ _ _ (addr_ne (Or.inl (by omega))), World.cell?_setCell_other _ _ _ _ (addr_ne (Or.inl (by omega)))]
    exact ((bcell X5.out).1 b o (by omega)).trans ((bcell hWB).1 b o hb)
   have hf : ∀ b o, b < w2.heap.size → wx.frozen? ⟨b, o, none⟩ = w2.frozen? ⟨b, o, none⟩ := fun b o hb => by
    rw [hwx, World.frozen?_setCell, World.frozen?_setCell]
    exact ((bcell X5.out).2 b o (by omega)).trans ((bcell hWB).2 b o hb)
   have hb : Below w.heap.size w2 wx := by
    rw [hwx]
    exact (((hWB.mono hz2).trans (X5.out.mono (by omega))).setCell (p := ⟨w2.heap.size, 0, none⟩) hz2 _).setCell (p := ⟨w.heap.size, 1, none⟩) (Nat.le_refl _) _
   clear hwx q1'
   go_wp2_with fail
   go_meet
   exact ⟨a1, z1, a2, z2, s0, s1, s8, HB, t0, hsx, hk, hf, hb⟩
 case rest =>
  obtain ⟨a1, z1, a2, z2, s0, s1, s8, HB, t0, hsx, hk, hf, hb⟩ := hcut
  have k3 := (hk (w.heap.size + 1) 0 (by omega) (by omega)).trans c3
  have k4 := (hk (w.heap.size + 1 + 1) 0 (by omega) (by omega)).trans c4
  have k5 := (hk (w.heap.size + 1 + 1) 1 (by omega) (by omega)).trans c5
  have l3 := (hf (w.heap.size + 1) 0 (by omega)).trans f3
  have l4 := (hf (w.heap.size + 1 + 1) 0 (by omega)).trans f4
  have l5 := (hf (w.heap.size + 1 + 1) 1 (by omega)).trans f5
  have hB := hB2.trans hb
  have HCW := Lib.hid (HCH.out.kept hB (Nat.le_refl _))
  clear hk hf hb c0 c1 c3 c4 c5 f0 f1 f3 f4 f5 d0 d1 d8 g0 g1 g8 hB2
  go_wp2_with fail
  refine (thread (cloneC (.slice a cs.length x) cs _ HCW.out (by omega)) wc.heap.size wc (by go_grown) (by go_grown)).mono ?_
  rintro e w6 ⟨⟨v6, rfl, ho6⟩, hX6, -, -, hs6, hz6⟩
  obtain ⟨a6, y6, rfl⟩ := own_form ho6
  have HCL := Lib.hid (slC_row ho6).2
  have m0 := kept_cell hX6 s0
  have m1 := kept_cell hX6 s1
  have m8 := kept_cell hX6 s8
  have m3 := kept_cell hX6 k3
  have m4 := kept_cell hX6 k4
  have m5 := kept_cell hX6 k5
  have n0 := ((bcell hX6).2 w.heap.size 0 (by omega)).trans t0
  have n3 := ((bcell hX6).2 (w.heap.size + 1) 0 (by omega)).trans l3
  have n4 := ((bcell hX6).2 (w.heap.size + 1 + 1) 0 (by omega)).trans l4
  have n5 := ((bcell hX6).2 (w.heap.size + 1 + 1) 1 (by omega)).trans l5
  have HB6 := Lib.hid (And.intro (HB.out.1.kept hX6 (Nat.le_refl _)) (HB.out.2.kept hX6 (Nat.le_refl _)))
  have hB6 := hB.trans (hX6.mono hB.size)
  have hs6' : w2.heap.size < w6.heap.size := by omega
  clear ho6 s0 s1 s8 k3 k4 k5 t0 l3 l4 l5 hX6 hB HB HCW hs6 hz6
  go_upto_region 7 with (fail)
  obtain ⟨wy, hwy⟩ : ∃ wy, wy = w6.setCell ⟨w.heap.size, 0, none⟩ (.slice a6 cs.length y6) := ⟨_, rfl⟩
  rw [← hwy]
  have o0 : wy.cell? ⟨w.heap.size, 0, none⟩ = some (.slice a6 cs.length y6) := by rw [hwy]; exact World.cell?_setCell_same _ _ _ m0
  have o1 : wy.cell? ⟨w.heap.size, 1, none⟩ = some (.slice a2 O.length z2) := by rw [hwy, World.cell?_setCell_other _ _ _ _ (addr_ne (Or.inr (by omega)))]; exact m1
  have o8 : wy.cell? ⟨w2.heap.size, 0, none⟩ = some (.slice a1 I.length z1) := by rw [hwy, World.cell?_setCell_other _ _ _ _ (addr_ne (Or.inl (by omega)))]; exact m8
  have o3 : wy.cell? ⟨w.heap.size + 1, 0, none⟩ = some (.slice none 0 0) := by rw [hwy, World.cell?_setCell_other _ _ _ _ (addr_ne (Or.inl (by omega)))]; exact m3
  have o4 : wy.cell? ⟨w.heap.size + 1 + 1, 0, none⟩ = some (.slice none 0 0) := by rw [hwy, World.cell?_setCell_other _ _ _ _ (addr_ne (Or.inl (by omega)))]; exact m4
  have o5 : wy.cell? ⟨w.heap.size + 1 + 1, 1, none⟩ = some (.slice none 0 0) := by rw [hwy, World.cell?_setCell_other _ _ _ _ (addr_ne (Or.inl (by omega)))]; exact m5
  have p3 : wy.frozen? ⟨w.heap.size + 1, 0, none⟩ = false := by rw [hwy, World.frozen?_setCell]; exact n3
  have p4 : wy.frozen? ⟨w.heap.size + 1 + 1, 0, none⟩ = false := by rw [hwy, World.frozen?_setCell]; exact n4
  have p5 : wy.frozen? ⟨w.heap.size + 1 + 1, 1, none⟩ = false := by rw [hwy, World.frozen?_setCell]; exact n5
  have HY := Lib.hid (show SlC wy (.slice a6 cs.length y6) cs ∧ BoxU wy (.agg #[.slice a1 I.length z1]) I ∧ BoxU wy (.agg #[.slice a2 O.length z2]) O from by rw [hwy]; exact ⟨HCL.out.setAt m0 _, HB6.out.1.setAt m0 _, HB6.out.2.setAt m0 _⟩)
  have hBy : Below w.heap.size w wy := by rw [hwy]; exact hB6.setCell (p := ⟨w.heap.size, 0, none⟩) (Nat.le_refl _) _
  clear hwy m0 m1 m8 m3 m4 m5 n0 n3 n4 n5 HB6 hB6 HCL
  go_region
  all_goals
   go_wp2_with fail
   have p4' : (wy.setCell ⟨w.heap.size + 1, 0, none⟩ (.slice a1 I.length z1)).cell? ⟨w.heap.size + 1 + 1, 0, none⟩ = some (.slice none 0 0) := (World.cell?_setCell_other _ _ _ _ (addr_ne (Or.inl (by omega)))).trans o4
   have p5' : ((wy.setCell ⟨w.heap.size + 1, 0, none⟩ (.slice a1 I.length z1)).setCell ⟨w.heap.size + 1 + 1, 0, none⟩ (.slice a6 cs.length y6)).cell? ⟨w.heap.size + 1 + 1, 1, none⟩ = some (.slice none 0 0) := (World.cell?_setCell_other _ _ _ _ (addr_ne (Or.inr (by omega)))).trans ((World.cell?_setCell_other _ _ _ _ (addr_ne (Or.inl (by omega)))).trans o5)
   have hE := ((hBy.setCell (p := ⟨w.heap.size + 1, 0, none⟩) (by simp) (.slice a1 I.length z1)).setCell (p := ⟨w.heap.size + 1 + 1, 0, none⟩) (by simp; omega) (.slice a6 cs.length y6)).setCell (p := ⟨w.heap.size + 1 + 1, 1, none⟩) (by simp; omega) (.slice a2 O.length z2)
   have hI := ((HY.out.2.1.setAt o3 (.slice a1 I.length z1)).setAt p4' (.slice a6 cs.length y6)).setAt p5' (.slice a2 O.length z2)
   have hO := ((HY.out.2.2.setAt o3 (.slice a1 I.length z1)).setAt p4' (.slice a6 cs.length y6)).setAt p5' (.slice a2 O.length z2)
   have hC := ((HY.out.1.setAt o3 (.slice a1 I.length z1)).setAt p4' (.slice a6 cs.length y6)).setAt p5' (.slice a2 O.length z2)
   obtain ⟨sO, eO, hO'⟩ := hO
   simp only [Value.agg.injEq, Array.mk.injEq, List.cons.injEq, and_true] at eO
   subst eO
   refine bodyPost_ret (v := .tuple #[.int .i64 k, .agg #[.slice a1 I.length z1], .agg #[.slice a6 cs.length y6, .slice a2 O.length z2], .bool true]) ?_ rfl ⟨⟨a1, z1, .agg #[.slice a6 cs.length y6, .slice a2 O.length z2], ?_, ?_, ?_⟩, below_drew' hE⟩
   ·simp [results, Tryz.results91, go_sem, o3, o4, o5]
   ·rw [HLO.out, HHI.out, HI.out]
   ·rw [HLO.out, HHI.out, HI.out]; exact hI.kept (below_drew' (Below.refl _ _)) (Nat.le_refl _)
   ·rw [HLO.out, HHI.out, HO.out]; exact (NodeAt.mk' hC hO').kept (below_drew' (Below.refl _ _)) (Nat.le_refl _)
open Go.RowKit
attribute [local go_sem ↓] Go.wp_at_zero Go.wp_at_succ
theorem under_C : Tryz.prog.underlying 100 = some (.slice (Tryz.prog.elem 100)) := by rw [show Tryz.prog.elem 100 = 179 by kernel_rfl]; exact Tryz.underlying100
theorem sizeElemC (w : World) : (sizeOf (Tryz.prog.elem 100)).run Tryz.prog w = .ok 4 w := by kernel_rfl
theorem far_two {w : World} {b b' o : Nat} {v u u' : Value} (h : b ≠ b') (hc : w.cell? ⟨b, o, none⟩ = some v) : ((w.setCell ⟨b', 0, none⟩ u).setCell ⟨b', 1, none⟩ u').cell? ⟨b, o, none⟩ = some v :=
 far_block h (far_block h hc)
structure NilAt (w : World) (p : Nat) : Prop where
 c0 : w.cell? ⟨p, 0, none⟩ = some (.slice none 0 0)
 c1 : w.cell? ⟨p, 1, none⟩ = some (.slice none 0 0)
 f0 : w.frozen? ⟨p, 0, none⟩ = false
 f1 : w.frozen? ⟨p, 1, none⟩ = false
theorem NilAt.new (w : World) (t : TypeId) (p : Nat) (hp : p = w.heap.size) : NilAt (w.alloc (.cells #[.slice none 0 0, .slice none 0 0] t)) p :=
 ⟨by rw [World.cell?_alloc_at _ _ _ _ hp]; rfl, by rw [World.cell?_alloc_at _ _ _ _ hp]; rfl, World.frozen?_alloc_at _ _ _ _ hp, World.frozen?_alloc_at _ _ _ _ hp⟩
theorem NilAt.on {w w' : World} {p : Nat} (h : NilAt w p) (hb : Below w.heap.size w w') : NilAt w' p := by
 have hp := World.block_lt_of_cell? w _ h.c0
 exact ⟨((bcell hb).1 p 0 hp).trans h.c0, ((bcell hb).1 p 1 hp).trans h.c1, ((bcell hb).2 p 0 hp).trans h.f0, ((bcell hb).2 p 1 hp).trans h.f1⟩
theorem NilAt.alloc {w : World} {p : Nat} (h : NilAt w p) (o : Obj) : NilAt (w.alloc o) p := h.on ((Below.refl _ _).alloc (Nat.le_refl _) o)
theorem NilAt.drew {w : World} {p : Nat} (h : NilAt w p) : NilAt w.drew p := ⟨h.c0, h.c1, h.f0, h.f1⟩
theorem NilAt.far {w : World} {p q : Nat} (h : NilAt w p) (hn : p ≠ q) (u u' : Value) : NilAt ((w.setCell ⟨q, 0, none⟩ u).setCell ⟨q, 1, none⟩ u') p :=
 ⟨far_two hn h.c0, far_two hn h.c1, by rw [World.frozen?_setCell, World.frozen?_setCell]; exact h.f0, by rw [World.frozen?_setCell, World.frozen?_setCell]; exact h.f1⟩
theorem NilAt.half {w : World} {p : Nat} (h : NilAt w p) (u : Value) (o : Obj) : ((w.setCell ⟨p, 0, none⟩ u).alloc o).cell? ⟨p, 1, none⟩ = some (.slice none 0 0) ∧ ((w.setCell ⟨p, 0, none⟩ u).alloc o).frozen? ⟨p, 1, none⟩ = false := by
 have hp := World.block_lt_of_cell? w _ h.c0
 refine ⟨cell_past o ((World.cell?_setCell_other _ _ _ _ (addr_ne (Or.inr (by decide)))).trans h.c1), ?_⟩
 rw [World.frozen?_alloc_past _ _ _ (by rw [World.size_setCell]; exact hp), World.frozen?_setCell]
 exact h.f1
def lowAt (cs : List Chd) (i : Nat) : List UInt8 := (cs[i]?.map Chd.low).getD []
def headless : List Chd → List Chd
 | [] => []
 | c :: l => { c with low := [] } :: l
theorem cells_headless (l : List Chd) (h : 0 < l.length) : (cellsC l).set 0 (.string ⟨#[]⟩) = cellsC (headless l) := by
 cases l with
 | nil => simp at h
 | cons c l => rfl
structure TwoN (w wx : World) (p q : Nat) (u v : Value) : Prop where
 a0 : wx.cell? ⟨p, 0, none⟩ = some u
 a1 : wx.cell? ⟨p, 1, none⟩ = some (.slice none 0 0)
 b0 : wx.cell? ⟨q, 0, none⟩ = some v
 b1 : wx.cell? ⟨q, 1, none⟩ = some (.slice none 0 0)
 fa : wx.frozen? ⟨p, 1, none⟩ = false
 fb : wx.frozen? ⟨q, 1, none⟩ = false
 ne : p ≠ q
 os : wx.os = w.os
 tape : wx.tape = w.tape
 output : wx.output = w.output
 size : w.heap.size ≤ wx.heap.size
 block : ∀ k, k < w.heap.size → k ≠ p → k ≠ q → wx.heap[k]? = w.heap[k]?
theorem NilAt.lt {w : World} {p : Nat} (h : NilAt w p) : p < w.heap.size := World.block_lt_of_cell? w _ h.c0
theorem TwoN.both {w : World} {p q : Nat} (hp : NilAt w p) (hq : NilAt w q) (hn : p ≠ q) (u v : Value) : TwoN w ((((w.setCell ⟨p, 0, none⟩ u).setCell ⟨p, 1, none⟩ (.slice none 0 0)).setCell ⟨q, 0, none⟩ v).setCell ⟨q, 1, none⟩ (.slice none 0 0)) p q u v := by
 have h1 : ((w.setCell ⟨p, 0, none⟩ u).setCell ⟨p, 1, none⟩ (.slice none 0 0)).cell? ⟨p, 0, none⟩ = some u := by
  rw [World.cell?_setCell_other _ _ _ _ (addr_ne (Or.inr (by decide)))]; exact World.cell?_setCell_same _ _ _ hp.c0
 have h2 : ((w.setCell ⟨p, 0, none⟩ u).setCell ⟨p, 1, none⟩ (.slice none 0 0)).cell? ⟨p, 1, none⟩ = some (.slice none 0 0) :=
  World.cell?_setCell_same _ _ _ ((World.cell?_setCell_other _ _ _ _ (addr_ne (Or.inr (by decide)))).trans hp.c1)
 have hq' := hq.far (Ne.symm hn) u (.slice none 0 0)
 refine ⟨far_two hn h1, far_two hn h2, ?_, ?_, ?_, ?_, hn, rfl, rfl, rfl, by simp only [World.size_setCell]; exact Nat.le_refl _, fun k hk h3 h4 => ?_⟩
 ·rw [World.cell?_setCell_other _ _ _ _ (addr_ne (Or.inr (by decide)))]; exact World.cell?_setCell_same _ _ _ hq'.c0
 ·exact World.cell?_setCell_same _ _ _ ((World.cell?_setCell_other _ _ _ _ (addr_ne (Or.inr (by decide)))).trans hq'.c1)
 ·simp only [World.frozen?_setCell]; exact hp.f1
 ·simp only [World.frozen?_setCell]; exact hq.f1
 ·exact ((Below.heap_setCell _ _ _ _ h4).trans (Below.heap_setCell _ _ _ _ h4)).trans ((Below.heap_setCell _ _ _ _ h3).trans (Below.heap_setCell _ _ _ _ h3))
theorem TwoN.back {w wx : World} {p q : Nat} {u v : Value} {o : Obj} (h : TwoN (w.alloc o) wx p q u v) : TwoN w wx p q u v :=
 ⟨h.a0, h.a1, h.b0, h.b1, h.fa, h.fb, h.ne, h.os, h.tape, h.output, Nat.le_trans (by simp) h.size, fun k hk h1 h2 => (h.block k (by simp; omega) h1 h2).trans (Below.heap_alloc w o k hk)⟩
theorem TwoN.old {w : World} {p : Nat} (hp : NilAt w p) (t : TypeId) (u v : Value) : TwoN w (((((w.alloc (.cells #[.slice none 0 0, .slice none 0 0] t)).setCell ⟨p, 0, none⟩ u).setCell ⟨p, 1, none⟩ (.slice none 0 0)).setCell ⟨w.heap.size, 0, none⟩ v).setCell ⟨w.heap.size, 1, none⟩ (.slice none 0 0)) p w.heap.size u v :=
 (TwoN.both (hp.alloc _) (NilAt.new w t _ rfl) (Nat.ne_of_lt hp.lt) u v).back
theorem TwoN.new {w : World} {q : Nat} (hq : NilAt w q) (t : TypeId) (u v : Value) : TwoN w (((w.alloc (.cells #[u, .slice none 0 0] t)).setCell ⟨q, 0, none⟩ v).setCell ⟨q, 1, none⟩ (.slice none 0 0)) w.heap.size q u v := by
 have hl := hq.lt
 have hq' := hq.alloc (.cells #[u, .slice none 0 0] t)
 refine ⟨far_two (Nat.ne_of_gt hl) (by rw [World.cell?_alloc_at _ _ _ _ rfl]; rfl), far_two (Nat.ne_of_gt hl) (by rw [World.cell?_alloc_at _ _ _ _ rfl]; rfl), ?_, ?_, ?_, ?_, Nat.ne_of_gt hl, rfl, rfl, rfl, by simp only [World.size_setCell, World.size_alloc]; omega, fun k hk h3 h4 => ?_⟩
 ·rw [World.cell?_setCell_other _ _ _ _ (addr_ne (Or.inr (by decide)))]; exact World.cell?_setCell_same _ _ _ hq'.c0
 ·exact World.cell?_setCell_same _ _ _ ((World.cell?_setCell_other _ _ _ _ (addr_ne (Or.inr (by decide)))).trans hq'.c1)
 ·simp only [World.frozen?_setCell]; exact World.frozen?_alloc_at _ _ _ _ rfl
 ·simp only [World.frozen?_setCell]; exact hq'.f1
 ·exact ((Below.heap_setCell _ _ _ _ h4).trans (Below.heap_setCell _ _ _ _ h4)).trans (Below.heap_alloc w _ k hk)
theorem TwoN.fresh {w : World} (t : TypeId) (u v : Value) : TwoN w ((w.alloc (.cells #[u, .slice none 0 0] t)).alloc (.cells #[v, .slice none 0 0] t)) w.heap.size (w.heap.size + 1) u v :=
 ⟨cell_past _ (by rw [World.cell?_alloc_at _ _ _ _ rfl]; rfl), cell_past _ (by rw [World.cell?_alloc_at _ _ _ _ rfl]; rfl), by rw [World.cell?_alloc_at _ _ _ _ (by simp)]; rfl, by rw [World.cell?_alloc_at _ _ _ _ (by simp)]; rfl,
  by rw [World.frozen?_alloc_past _ _ _ (by simp)]; exact World.frozen?_alloc_at _ _ _ _ rfl, World.frozen?_alloc_at _ _ _ _ (by simp), by omega, rfl, rfl, rfl, by simp only [World.size_alloc]; omega, fun k hk _ _ => (Below.heap_alloc _ _ k (by simp; omega)).trans (Below.heap_alloc w _ k hk)⟩
theorem TwoN.swap {w wx : World} {p q : Nat} {u v : Value} (h : TwoN w wx p q u v) : TwoN w wx q p v u :=
 ⟨h.b0, h.b1, h.a0, h.a1, h.fb, h.fa, h.ne.symm, h.os, h.tape, h.output, h.size, fun k hk h1 h2 => h.block k hk h2 h1⟩
theorem TwoN.row {w wx : World} {p q : Nat} {u v : Value} (h : TwoN w wx p q u v) {B : Nat} {E : TypeId} {k : Nat} {x : Value} {n : Nat} {xs : List Value} (ho : w.ownsRow B E k x n xs) (h1 : x.ownBlock ≠ some p) (h2 : x.ownBlock ≠ some q) : wx.ownsRow B E k x n xs := by
 obtain ⟨hl, h3 | ⟨g, cap, cur, e, h4, h5, h6⟩⟩ := ho
 ·exact ⟨hl, Or.inl h3⟩
 ·subst e
  have hg : g < w.heap.size := (Array.getElem?_eq_some_iff.1 h5).1
  exact ⟨hl, Or.inr ⟨g, cap, cur, rfl, h4, (h.block g hg (fun e => h1 (by rw [← e]; rfl)) (fun e => h2 (by rw [← e]; rfl))).trans h5, h6⟩⟩
theorem TwoN.below {w wx W0 : World} {p q B : Nat} {u v : Value} (h : TwoN w wx p q u v) (hb : Below B W0 w) (h1 : B ≤ p) (h2 : B ≤ q) (hB : B ≤ w.heap.size) : Below B W0 wx :=
 hb.trans ⟨h.os, h.tape, h.output, h.size, fun k hk => h.block k (by omega) (by omega) (by omega)⟩
theorem slC_take {w : World} {b off c : Nat} {l : List Chd} (h : SlC w (.slice (some ⟨b, off, none⟩) l.length c) l) (m : Nat) (hm : m ≤ l.length) : SlC w (.slice (some ⟨b, off, none⟩) m c) (l.take m) := by
 obtain ⟨ao, c', e, h1, h2, h3, h4⟩ := h
 simp only [Value.slice.injEq] at e
 obtain ⟨rfl, -, rfl⟩ := e
 exact ⟨_, c, by rw [List.length_take, Nat.min_eq_left hm], h1.cut m, by rw [List.length_take]; omega, h3, fun e => by simp at e⟩
theorem slC_drop {w : World} {b off c : Nat} {l : List Chd} (h : SlC w (.slice (some ⟨b, off, none⟩) l.length c) l) (m : Nat) (hm : m ≤ l.length) : SlC w (.slice (some ⟨b, off + m * 4, none⟩) (l.length - m) (c - m)) (l.drop m) := by
 obtain ⟨ao, c', e, h1, h2, h3, h4⟩ := h
 simp only [Value.slice.injEq] at e
 obtain ⟨rfl, -, rfl⟩ := e
 exact ⟨_, c - m, by rw [List.length_drop], h1.drop m b off rfl, by rw [List.length_drop]; omega, by omega, fun e => by simp at e⟩
theorem slice_loC (ao : Option Addr) (n c i : Nat) (hin : i ≤ n) (hnc : n ≤ c) (w : World) : (Instr.slice 100 (.slice ao n c) none (some (.int .i64 (i : Int))) none).run Tryz.prog w = .ok (.slice ao i c) w := by
 rw [run_slice_h w 100 ao n c under_C .i64 i (by omega) (by omega)]
 rw [sizeElemC]
 have e : ao.map (·.add 0) = ao := by cases ao <;> simp [Addr.add]
 simp [Result.andThen, sliced, e]
theorem slice_hiC (b off n c i : Nat) (hin : i < n) (hnc : n ≤ c) (w : World) : (Instr.slice 100 (.slice (some ⟨b, off, none⟩) n c) (some (.int .i64 (i : Int))) none none).run Tryz.prog w = .ok (.slice (some ⟨b, off + i * 4, none⟩) (n - i) (c - i)) w := by
 rw [run_slice_l w 100 (some ⟨b, off, none⟩) n c under_C .i64 i (by omega) (by omega)]
 rw [sizeElemC]
 simp only [Result.andThen, sliced, Int.toNat_natCast]
 rw [if_neg (by omega)]
 simp [Addr.add]
theorem halves_some (v : Value) (cs : List Chd) (us : List Upd) (w : World) (h : NodeAt w v cs us) (hl : 2 ≤ cs.length) (hl2 : cs.length ≤ 1000) (hu : us.length ≤ 1000) (hr : Rising Upd.key us) (m : Nat) (hm : (cs.length + 1) / 2 = m):
  Calls Tryz.prog 98 #[v] w fun e w' => (∃ va vb, e = .returned (.tuple #[va, vb, .string (S (lowAt cs m)), .bool true]) ∧ NodeAt w' va (cs.take m) (cutIn us [] (lowAt cs m)) ∧ NodeAt w' vb (headless (cs.drop m)) (cutOut us [] (lowAt cs m))) ∧ Below w.heap.size w w' := by
 obtain ⟨a, b, x, y, rfl, h1, h2⟩ := h
 obtain ⟨b0, off, e0, hb0, t0, -, -, -⟩ := h1.at.cells4C 0 (by omega)
 subst e0
 clear t0
 have hl' : (2 : Int) ≤ (cs.length : Int) := by omega
 have hmd : ((cs.length : Int) + 1) / 2 = (m : Int) := by omega
 have hm1 : 1 ≤ m := by omega
 have hm2 : m < cs.length := by omega
 have HCH := Lib.hid h1
 have HU := Lib.hid h2
 have hsl1 := fun W => slice_loC (some ⟨b0, off, none⟩) cs.length x m (by omega) (by obtain ⟨_, _, e, -, h3, -⟩ := h1; simp only [Value.slice.injEq] at e; omega) W
 have hsl2 := fun W => slice_hiC b0 off cs.length x m (by omega) (by obtain ⟨_, _, e, -, h3, -⟩ := h1; simp only [Value.slice.injEq] at e; omega) W
 have hkx : m < x := by obtain ⟨_, _, e, -, h3, -⟩ := h1; simp only [Value.slice.injEq] at e; omega
 clear h1 h2 hm
 go_enter Tryz.func98, Tryz.ntmps98
 go_wp2_with fail
 rw [hmd]
 obtain ⟨W, hW⟩ : ∃ W, W = ((w.alloc (.cells #[.slice (some ⟨b0, off, none⟩) cs.length x, .slice b us.length y] 105)).alloc (.cells #[.slice none 0 0, .slice none 0 0] 105)).alloc (.cells #[.slice none 0 0, .slice none 0 0] 105) := ⟨_, rfl⟩
 rw [← hW]
 have hWs : w.heap.size + 3 ≤ W.heap.size := by rw [hW]; simp
 have hWB : Below w.heap.size w W := by rw [hW]; go_grown
 have d0 : W.cell? ⟨w.heap.size, 0, none⟩ = some (.slice (some ⟨b0, off, none⟩) cs.length x) := by rw [hW, World.cell?_alloc_past _ _ _ (by simp <;> omega), World.cell?_alloc_past _ _ _ (by simp <;> omega), World.cell?_alloc_at _ _ _ _ (by simp)]; rfl
 have d1 : W.cell? ⟨w.heap.size, 1, none⟩ = some (.slice b us.length y) := by rw [hW, World.cell?_alloc_past _ _ _ (by simp <;> omega), World.cell?_alloc_past _ _ _ (by simp <;> omega), World.cell?_alloc_at _ _ _ _ (by simp)]; rfl
 have d2 : W.cell? ⟨w.heap.size + 1, 0, none⟩ = some (.slice none 0 0) := by rw [hW, World.cell?_alloc_past _ _ _ (by simp <;> omega), World.cell?_alloc_at _ _ _ _ (by simp)]; rfl
 have d3 : W.cell? ⟨w.heap.size + 1, 1, none⟩ = some (.slice none 0 0) := by rw [hW, World.cell?_alloc_past _ _ _ (by simp <;> omega), World.cell?_alloc_at _ _ _ _ (by simp)]; rfl
 have d4 : W.cell? ⟨w.heap.size + 1 + 1, 0, none⟩ = some (.slice none 0 0) := by rw [hW, World.cell?_alloc_at _ _ _ _ (by simp)]; rfl
 have d5 : W.cell? ⟨w.heap.size + 1 + 1, 1, none⟩ = some (.slice none 0 0) := by rw [hW, World.cell?_alloc_at _ _ _ _ (by simp)]; rfl
 have f2 : W.frozen? ⟨w.heap.size + 1, 0, none⟩ = false := by rw [hW, World.frozen?_alloc_past _ _ _ (by simp <;> omega), World.frozen?_alloc_at _ _ _ _ (by simp)]
 have f3 : W.frozen? ⟨w.heap.size + 1, 1, none⟩ = false := by rw [hW, World.frozen?_alloc_past _ _ _ (by simp <;> omega), World.frozen?_alloc_at _ _ _ _ (by simp)]
 have f4 : W.frozen? ⟨w.heap.size + 1 + 1, 0, none⟩ = false := by rw [hW, World.frozen?_alloc_at _ _ _ _ (by simp)]
 have f5 : W.frozen? ⟨w.heap.size + 1 + 1, 1, none⟩ = false := by rw [hW, World.frozen?_alloc_at _ _ _ _ (by simp)]
 have HD := Lib.hid (And.intro d2 (And.intro d3 (And.intro d4 (And.intro d5 (And.intro f2 (And.intro f3 (And.intro f4 f5)))))))
 clear d2 d3 d4 d5 f2 f3 f4 f5
 clear hW
 have HCW := Lib.hid (HCH.out.kept hWB (Nat.le_refl _))
 have HC1 := Lib.hid (fun W' (h : Below W.heap.size W W') => cloneC (.slice (some ⟨b0, off, none⟩) m x) (cs.take m) W' (slC_take (HCW.out.kept h (Nat.le_refl _)) m (by omega)) (by rw [List.length_take]; omega))
 have HC2 := Lib.hid (fun W' (h : Below W.heap.size W W') => cloneC (.slice (some ⟨b0, off + m * 4, none⟩) (cs.length - m) (x - m)) (cs.drop m) W' (slC_drop (HCW.out.kept h (Nat.le_refl _)) m (by omega)) (by rw [List.length_drop]; omega))
 rw [List.length_take, Nat.min_eq_left (by omega : m ≤ cs.length)] at HC1
 rw [List.length_drop] at HC2
 have hX0 : Below W.heap.size W W.drew := below_drew' (Below.refl _ _)
 go_cut [7, 8] (fun s7 s8 wx => ∃ p q w5 g4 y4 g5 y5, s7 = .pointer (some ⟨p, 0, none⟩) ∧ s8 = .pointer (some ⟨q, 0, none⟩) ∧ TwoN w5 wx p q (.slice (some ⟨g4, 0, none⟩) m y4) (.slice (some ⟨g5, 0, none⟩) (cs.length - m) y5) ∧ W.heap.size ≤ p ∧ W.heap.size ≤ q ∧ w5.ownsRow W.heap.size 179 4 (.slice (some ⟨g4, 0, none⟩) m y4) m (cellsC (cs.take m)) ∧ w5.ownsRow W.heap.size 179 4 (.slice (some ⟨g5, 0, none⟩) (cs.length - m) y5) (cs.length - m) (cellsC (cs.drop m)) ∧
  g4 < g5 ∧ g4 ≠ p ∧ g4 ≠ q ∧ g5 ≠ p ∧ g5 ≠ q ∧ Below W.heap.size W w5)
 case first =>
  go_region_held3 (fun w' => w'.cell? ⟨w.heap.size, 0, none⟩ = some (.slice (some ⟨b0, off, none⟩) cs.length x))
   (with_reducible first | assumption | exact cell_drew d0 | exact cell_drew (cell_past _ d0) | exact cell_drew (cell_past _ (cell_past _ d0)) | exact s4 | exact cell_past _ s4 | exact cell_past _ (cell_past _ s4) | exact s5 | exact cell_past _ s5 | exact cell_past _ (cell_past _ s5) | exact cell_past _ (cell_drew d0) | exact cell_past _ (cell_past _ (cell_drew d0)) | exact far_two (by omega) s5 | exact far_two (by omega) (far_two (by omega) s5) | exact far_two (by omega) (cell_past _ s5) | exact far_two (by omega) (far_two (by omega) (cell_past _ s5)) | exact far_two (by omega) (cell_past _ (cell_past _ s5)) | exact far_two (by omega) (far_two (by omega) (cell_past _ (cell_past _ s5))))
   ((go_simp; go_at_call 107; first
    | (with_reducible refine (HC1.out (W.drew) (below_drew' (Below.refl _ _))).mono ?_; rintro e w4 ⟨⟨v4, rfl, ho4⟩, hb4⟩; have hX4 : Below W.heap.size W w4 := (below_drew' (Below.refl _ _)).trans (hb4.mono (by simp <;> omega)); have hz4 := hb4.size; (try simp only [World.size_drew] at hz4); (try simp only [World.size_alloc] at hz4); obtain ⟨a4, y4, rfl⟩ := own_form ho4; obtain ⟨g4, rfl, hg4, hl4, -⟩ := own_at ho4 (by omega); (try simp only [World.size_drew] at hg4); (try simp only [World.size_alloc] at hg4); have HO4 := Lib.hid ho4; have s4 := kept_cell hX4 d0; clear ho4; clear hb4)
    | (with_reducible refine (HC1.out ((W.alloc (.cells #[.slice none 0 0, .slice none 0 0] 105)).drew) (below_drew' ((Below.refl _ _).alloc (Nat.le_refl _) _))).mono ?_; rintro e w4 ⟨⟨v4, rfl, ho4⟩, hb4⟩; have hX4 : Below W.heap.size W w4 := (below_drew' ((Below.refl _ _).alloc (Nat.le_refl _) _)).trans (hb4.mono (by simp <;> omega)); have hz4 := hb4.size; (try simp only [World.size_drew] at hz4); (try simp only [World.size_alloc] at hz4); obtain ⟨a4, y4, rfl⟩ := own_form ho4; obtain ⟨g4, rfl, hg4, hl4, -⟩ := own_at ho4 (by omega); (try simp only [World.size_drew] at hg4); (try simp only [World.size_alloc] at hg4); have HO4 := Lib.hid ho4; have s4 := kept_cell hX4 d0; clear ho4; have P0 := Lib.hid ((NilAt.new W 105 (W.heap.size) rfl).drew.on hb4); obtain ⟨pc0, pd0, pf0, pg0⟩ := P0.out; clear hb4)
    | (with_reducible refine (HC1.out (((W.alloc (.cells #[.slice none 0 0, .slice none 0 0] 105)).alloc (.cells #[.slice none 0 0, .slice none 0 0] 105)).drew) (below_drew' (((Below.refl _ _).alloc (Nat.le_refl _) _).alloc (by simp) _))).mono ?_; rintro e w4 ⟨⟨v4, rfl, ho4⟩, hb4⟩; have hX4 : Below W.heap.size W w4 := (below_drew' (((Below.refl _ _).alloc (Nat.le_refl _) _).alloc (by simp) _)).trans (hb4.mono (by simp <;> omega)); have hz4 := hb4.size; (try simp only [World.size_drew] at hz4); (try simp only [World.size_alloc] at hz4); obtain ⟨a4, y4, rfl⟩ := own_form ho4; obtain ⟨g4, rfl, hg4, hl4, -⟩ := own_at ho4 (by omega); (try simp only [World.size_drew] at hg4); (try simp only [World.size_alloc] at hg4); have HO4 := Lib.hid ho4; have s4 := kept_cell hX4 d0; clear ho4; have P0 := Lib.hid (((NilAt.new W 105 (W.heap.size) rfl).alloc (.cells #[.slice none 0 0, .slice none 0 0] 105)).drew.on hb4); have P1 := Lib.hid ((NilAt.new (W.alloc (.cells #[.slice none 0 0, .slice none 0 0] 105)) 105 (W.heap.size + 1) (by simp)).drew.on hb4); obtain ⟨pc0, pd0, pf0, pg0⟩ := P0.out; obtain ⟨pc1, pd1, pf1, pg1⟩ := P1.out; clear hb4)
    | (have _t0 := P0; have _t1 := P1; with_reducible refine (HC2.out (w4) hX4).mono ?_; rintro e w5 ⟨⟨v5, rfl, ho5⟩, hb5⟩; have hX5 : Below W.heap.size W w5 := hX4.trans (hb5.mono (by have := hX4.size; simp <;> omega)); have hz5 := hb5.size; (try simp only [World.size_alloc] at hz5); obtain ⟨a5, y5, rfl⟩ := own_form ho5; obtain ⟨g5, rfl, hg5, hl5, -⟩ := own_at ho5 (by omega); (try simp only [World.size_alloc] at hg5); have HO5 := Lib.hid ho5; have HO4' := Lib.hid (own_below (HO4.out) hb5); have s5 := kept_cell hX5 d0; clear ho5; have Q0 := Lib.hid ((P0.out).on hb5); clear pc0 pd0 pf0 pg0; obtain ⟨qc0, qd0, qf0, qg0⟩ := Q0.out; have Q1 := Lib.hid ((P1.out).on hb5); clear pc1 pd1 pf1 pg1; obtain ⟨qc1, qd1, qf1, qg1⟩ := Q1.out; obtain ⟨uc0, ud0, uf0, ug0⟩ := NilAt.far (p := W.heap.size) (q := W.heap.size + 1) Q0.out (by omega) (.slice (some ⟨g4, 0, none⟩) m y4) (.slice none 0 0); obtain ⟨vc0, vd0, vf0, vg0⟩ := NilAt.far (p := W.heap.size + 1) (q := W.heap.size) Q1.out (by omega) (.slice (some ⟨g4, 0, none⟩) m y4) (.slice none 0 0); clear hb5)
    | (have _t0 := P0; with_reducible refine (HC2.out ((w4.alloc (.cells #[.slice none 0 0, .slice none 0 0] 105))) (hX4.alloc hX4.size _)).mono ?_; rintro e w5 ⟨⟨v5, rfl, ho5⟩, hb5⟩; have hX5 : Below W.heap.size W w5 := (hX4.alloc hX4.size _).trans (hb5.mono (by have := hX4.size; simp <;> omega)); have hz5 := hb5.size; (try simp only [World.size_alloc] at hz5); obtain ⟨a5, y5, rfl⟩ := own_form ho5; obtain ⟨g5, rfl, hg5, hl5, -⟩ := own_at ho5 (by omega); (try simp only [World.size_alloc] at hg5); have HO5 := Lib.hid ho5; have HO4' := Lib.hid (own_below (HO4.out.alloc _) hb5); have s5 := kept_cell hX5 d0; clear ho5; have Q0 := Lib.hid (((P0.out.alloc (.cells #[.slice none 0 0, .slice none 0 0] 105))).on hb5); clear pc0 pd0 pf0 pg0; obtain ⟨qc0, qd0, qf0, qg0⟩ := Q0.out; have R0 := Lib.hid ((NilAt.new w4 105 (w4.heap.size) rfl).on hb5); obtain ⟨rc0, rd0, rf0, rg0⟩ := R0.out; obtain ⟨xc0, xd0, xf0, xg0⟩ := R0.out.alloc (.cells #[.slice none 0 0, .slice none 0 0] 105); obtain ⟨uc0, ud0, uf0, ug0⟩ := NilAt.far (p := W.heap.size) (q := w4.heap.size) Q0.out (by omega) (.slice (some ⟨g4, 0, none⟩) m y4) (.slice none 0 0); obtain ⟨vc0, vd0, vf0, vg0⟩ := NilAt.far (p := w4.heap.size) (q := W.heap.size) R0.out (by omega) (.slice (some ⟨g4, 0, none⟩) m y4) (.slice none 0 0); obtain ⟨mc0, md0, mf0, mg0⟩ := R0.out.alloc (.cells #[.slice (some ⟨g4, 0, none⟩) m y4, .slice none 0 0] 105); obtain ⟨hh1, hh2⟩ := R0.out.half (.slice (some ⟨g4, 0, none⟩) m y4) (.cells #[.slice none 0 0, .slice none 0 0] 105); clear hb5)
    | (have _t0 := P0; with_reducible refine (HC2.out (w4) hX4).mono ?_; rintro e w5 ⟨⟨v5, rfl, ho5⟩, hb5⟩; have hX5 : Below W.heap.size W w5 := hX4.trans (hb5.mono (by have := hX4.size; simp <;> omega)); have hz5 := hb5.size; (try simp only [World.size_alloc] at hz5); obtain ⟨a5, y5, rfl⟩ := own_form ho5; obtain ⟨g5, rfl, hg5, hl5, -⟩ := own_at ho5 (by omega); (try simp only [World.size_alloc] at hg5); have HO5 := Lib.hid ho5; have HO4' := Lib.hid (own_below (HO4.out) hb5); have s5 := kept_cell hX5 d0; clear ho5; have Q0 := Lib.hid ((P0.out).on hb5); clear pc0 pd0 pf0 pg0; obtain ⟨qc0, qd0, qf0, qg0⟩ := Q0.out; obtain ⟨xc0, xd0, xf0, xg0⟩ := Q0.out.alloc (.cells #[.slice none 0 0, .slice none 0 0] 105); obtain ⟨uc0, ud0, uf0, ug0⟩ := NilAt.far (p := W.heap.size) (q := w5.heap.size) (Q0.out.alloc (.cells #[.slice none 0 0, .slice none 0 0] 105)) (by omega) (.slice (some ⟨g4, 0, none⟩) m y4) (.slice none 0 0); obtain ⟨vc0, vd0, vf0, vg0⟩ := NilAt.far (p := w5.heap.size) (q := W.heap.size) (NilAt.new w5 105 (w5.heap.size) rfl) (by omega) (.slice (some ⟨g4, 0, none⟩) m y4) (.slice none 0 0); obtain ⟨mc0, md0, mf0, mg0⟩ := Q0.out.alloc (.cells #[.slice (some ⟨g4, 0, none⟩) m y4, .slice none 0 0] 105); obtain ⟨hh1, hh2⟩ := Q0.out.half (.slice (some ⟨g4, 0, none⟩) m y4) (.cells #[.slice none 0 0, .slice none 0 0] 105); clear hb5)
    | (with_reducible refine (HC2.out (((w4.alloc (.cells #[.slice none 0 0, .slice none 0 0] 105)).alloc (.cells #[.slice none 0 0, .slice none 0 0] 105))) ((hX4.alloc hX4.size _).alloc (by have := hX4.size; simp; omega) _)).mono ?_; rintro e w5 ⟨⟨v5, rfl, ho5⟩, hb5⟩; have hX5 : Below W.heap.size W w5 := ((hX4.alloc hX4.size _).alloc (by have := hX4.size; simp; omega) _).trans (hb5.mono (by have := hX4.size; simp <;> omega)); have hz5 := hb5.size; (try simp only [World.size_alloc] at hz5); obtain ⟨a5, y5, rfl⟩ := own_form ho5; obtain ⟨g5, rfl, hg5, hl5, -⟩ := own_at ho5 (by omega); (try simp only [World.size_alloc] at hg5); have HO5 := Lib.hid ho5; have HO4' := Lib.hid (own_below ((HO4.out.alloc _).alloc _) hb5); have s5 := kept_cell hX5 d0; clear ho5; have R0 := Lib.hid (((NilAt.new w4 105 (w4.heap.size) rfl).alloc (.cells #[.slice none 0 0, .slice none 0 0] 105)).on hb5); obtain ⟨rc0, rd0, rf0, rg0⟩ := R0.out; have R1 := Lib.hid ((NilAt.new (w4.alloc (.cells #[.slice none 0 0, .slice none 0 0] 105)) 105 (w4.heap.size + 1) (by simp)).on hb5); obtain ⟨rc1, rd1, rf1, rg1⟩ := R1.out; obtain ⟨uc0, ud0, uf0, ug0⟩ := NilAt.far (p := w4.heap.size) (q := w4.heap.size + 1) R0.out (by omega) (.slice (some ⟨g4, 0, none⟩) m y4) (.slice none 0 0); obtain ⟨vc0, vd0, vf0, vg0⟩ := NilAt.far (p := w4.heap.size + 1) (q := w4.heap.size) R1.out (by omega) (.slice (some ⟨g4, 0, none⟩) m y4) (.slice none 0 0); clear hb5)
    | (with_reducible refine (HC2.out ((w4.alloc (.cells #[.slice none 0 0, .slice none 0 0] 105))) (hX4.alloc hX4.size _)).mono ?_; rintro e w5 ⟨⟨v5, rfl, ho5⟩, hb5⟩; have hX5 : Below W.heap.size W w5 := (hX4.alloc hX4.size _).trans (hb5.mono (by have := hX4.size; simp <;> omega)); have hz5 := hb5.size; (try simp only [World.size_alloc] at hz5); obtain ⟨a5, y5, rfl⟩ := own_form ho5; obtain ⟨g5, rfl, hg5, hl5, -⟩ := own_at ho5 (by omega); (try simp only [World.size_alloc] at hg5); have HO5 := Lib.hid ho5; have HO4' := Lib.hid (own_below (HO4.out.alloc _) hb5); have s5 := kept_cell hX5 d0; clear ho5; have R0 := Lib.hid ((NilAt.new w4 105 (w4.heap.size) rfl).on hb5); obtain ⟨rc0, rd0, rf0, rg0⟩ := R0.out; obtain ⟨xc0, xd0, xf0, xg0⟩ := R0.out.alloc (.cells #[.slice none 0 0, .slice none 0 0] 105); obtain ⟨uc0, ud0, uf0, ug0⟩ := NilAt.far (p := w4.heap.size) (q := w5.heap.size) (R0.out.alloc (.cells #[.slice none 0 0, .slice none 0 0] 105)) (by omega) (.slice (some ⟨g4, 0, none⟩) m y4) (.slice none 0 0); obtain ⟨vc0, vd0, vf0, vg0⟩ := NilAt.far (p := w5.heap.size) (q := w4.heap.size) (NilAt.new w5 105 (w5.heap.size) rfl) (by omega) (.slice (some ⟨g4, 0, none⟩) m y4) (.slice none 0 0); obtain ⟨mc0, md0, mf0, mg0⟩ := R0.out.alloc (.cells #[.slice (some ⟨g4, 0, none⟩) m y4, .slice none 0 0] 105); obtain ⟨hh1, hh2⟩ := R0.out.half (.slice (some ⟨g4, 0, none⟩) m y4) (.cells #[.slice none 0 0, .slice none 0 0] 105); clear hb5)
    | (with_reducible refine (HC2.out (w4) hX4).mono ?_; rintro e w5 ⟨⟨v5, rfl, ho5⟩, hb5⟩; have hX5 : Below W.heap.size W w5 := hX4.trans (hb5.mono (by have := hX4.size; simp <;> omega)); have hz5 := hb5.size; (try simp only [World.size_alloc] at hz5); obtain ⟨a5, y5, rfl⟩ := own_form ho5; obtain ⟨g5, rfl, hg5, hl5, -⟩ := own_at ho5 (by omega); (try simp only [World.size_alloc] at hg5); have HO5 := Lib.hid ho5; have HO4' := Lib.hid (own_below (HO4.out) hb5); have s5 := kept_cell hX5 d0; clear ho5; obtain ⟨uc0, ud0, uf0, ug0⟩ := NilAt.far (p := w5.heap.size) (q := w5.heap.size + 1) ((NilAt.new w5 105 (w5.heap.size) rfl).alloc (.cells #[.slice none 0 0, .slice none 0 0] 105)) (by omega) (.slice (some ⟨g4, 0, none⟩) m y4) (.slice none 0 0); obtain ⟨vc0, vd0, vf0, vg0⟩ := NilAt.far (p := w5.heap.size + 1) (q := w5.heap.size) (NilAt.new (w5.alloc (.cells #[.slice none 0 0, .slice none 0 0] 105)) 105 (w5.heap.size + 1) (by simp)) (by omega) (.slice (some ⟨g4, 0, none⟩) m y4) (.slice none 0 0); clear hb5)))
  all_goals
   have hr4 := own_base HO4'.out (show W.heap.size ≤ _ by first | exact Nat.le_refl _ | (simp <;> omega))
   have hr5 := own_base HO5.out (show W.heap.size ≤ _ by first | exact hX4.size | (have := hX4.size; simp <;> omega))
   go_wp2_with fail
   go_meet
   refine ⟨_, _, w5, g4, y4, g5, y5, rfl, rfl, ?_, by omega, by omega, hr4, hr5, by omega, by omega, by omega, by omega, by omega, hX5⟩
   with_reducible first
    | exact TwoN.fresh _ _ _
    | exact (TwoN.fresh _ _ _).swap
    | exact TwoN.both Q0.out Q1.out (by omega) _ _
    | exact TwoN.both Q1.out Q0.out (by omega) _ _
    | exact TwoN.both Q0.out R0.out (by omega) _ _
    | exact TwoN.both R0.out Q0.out (by omega) _ _
    | exact TwoN.both R0.out R1.out (by omega) _ _
    | exact TwoN.both R1.out R0.out (by omega) _ _
    | exact TwoN.old Q0.out _ _ _
    | exact TwoN.old R0.out _ _ _
    | exact TwoN.new Q0.out _ _ _
    | exact TwoN.new R0.out _ _ _
 case rest =>
  obtain ⟨p, q, w5, g4, y4, g5, y5, rfl, rfl, tw, hpW, hqW, hr4, hr5, h45, h4p, h4q, h5p, h5q, hX5⟩ := hcut
  obtain ⟨d2, d3, d4, d5, f2, f3, f4, f5⟩ := HD.out
  have hb4 := (hr4.lt g4 rfl).1
  have hb5 := (hr5.lt g5 rfl).1
  have row4 := tw.row hr4 (by simp [Value.ownBlock]; exact h4p) (by simp [Value.ownBlock]; exact h4q)
  have row5 := tw.row hr5 (by simp [Value.ownBlock]; exact h5p) (by simp [Value.ownBlock]; exact h5q)
  have hXc := tw.below hX5 hpW hqW hX5.size
  have HROW4 := Lib.hid row4
  have HROW5 := Lib.hid row5
  have hdl : 0 < (cs.drop m).length := by rw [List.length_drop]; omega
  have k0 : wc.cell? ⟨g5, 0, none⟩ = some (.string (S (lowAt cs m))) := by
   rw [row5.cellAt 0 (by omega)]
   have e : cs.drop m = cs[m] :: cs.drop (m + 1) := List.drop_eq_getElem_cons hm2
   rw [e]
   unfold lowAt
   rw [List.getElem?_eq_getElem hm2]
   rfl
  have kf := row5.frozenAt 0
  have p0 := tw.a0
  have p1 := tw.a1
  have q0 := tw.b0
  have q1 := tw.b1
  have pf := tw.fa
  have qf := tw.fb
  have hpq := tw.ne
  have hc1 := (cell_below hXc (by omega : w.heap.size < W.heap.size) 1).trans d1
  have e2 : wc.cell? ⟨w.heap.size + 1, 0, none⟩ = some (.slice none 0 0) := (cell_below hXc (by omega : w.heap.size + 1 < W.heap.size) 0).trans d2
  have e3 : wc.cell? ⟨w.heap.size + 1, 1, none⟩ = some (.slice none 0 0) := (cell_below hXc (by omega : w.heap.size + 1 < W.heap.size) 1).trans d3
  have e4 : wc.cell? ⟨w.heap.size + 1 + 1, 0, none⟩ = some (.slice none 0 0) := (cell_below hXc (by omega : w.heap.size + 1 + 1 < W.heap.size) 0).trans d4
  have e5 : wc.cell? ⟨w.heap.size + 1 + 1, 1, none⟩ = some (.slice none 0 0) := (cell_below hXc (by omega : w.heap.size + 1 + 1 < W.heap.size) 1).trans d5
  have hfz : ∀ b o, b < W.heap.size → wc.frozen? ⟨b, o, none⟩ = W.frozen? ⟨b, o, none⟩ := fun b o h => World.frozen?_of_block (hXc.block b h)
  have i2 := (hfz (w.heap.size + 1) 0 (by omega)).trans f2
  have i3 := (hfz (w.heap.size + 1) 1 (by omega)).trans f3
  have i4 := (hfz (w.heap.size + 1 + 1) 0 (by omega)).trans f4
  have i5 := (hfz (w.heap.size + 1 + 1) 1 (by omega)).trans f5
  have HXc := Lib.hid hXc
  have hzc := hXc.size
  clear hr4 hr5 tw row4 row5 hX5 hXc hfz d0 d1 d2 d3 d4 d5 f2 f3 f4 f5 hX0
  generalize hlow : lowAt cs m = low at *
  have HLOW := Lib.hid hlow
  clear hlow
  go_upto_region 7 with (fail)
  obtain ⟨ws, hws⟩ : ∃ ws, ws = wc.setCell ⟨g5, 0, none⟩ (.string ⟨#[]⟩) := ⟨_, rfl⟩
  rw [← hws]
  have hg5c : g5 < wc.heap.size := World.block_lt_of_cell? wc _ k0
  have P0 : ws.cell? ⟨p, 0, none⟩ = some (.slice (some ⟨g4, 0, none⟩) m y4) := by rw [hws, World.cell?_setCell_other _ _ _ _ (addr_ne (Or.inl h5p))]; exact p0
  have P1 : ws.cell? ⟨p, 1, none⟩ = some (.slice none 0 0) := by rw [hws, World.cell?_setCell_other _ _ _ _ (addr_ne (Or.inl h5p))]; exact p1
  have Q0 : ws.cell? ⟨q, 0, none⟩ = some (.slice (some ⟨g5, 0, none⟩) (cs.length - m) y5) := by rw [hws, World.cell?_setCell_other _ _ _ _ (addr_ne (Or.inl h5q))]; exact q0
  have Q1 : ws.cell? ⟨q, 1, none⟩ = some (.slice none 0 0) := by rw [hws, World.cell?_setCell_other _ _ _ _ (addr_ne (Or.inl h5q))]; exact q1
  have PF : ws.frozen? ⟨p, 1, none⟩ = false := by rw [hws, World.frozen?_setCell]; exact pf
  have QF : ws.frozen? ⟨q, 1, none⟩ = false := by rw [hws, World.frozen?_setCell]; exact qf
  have C1 : ws.cell? ⟨w.heap.size, 1, none⟩ = some (.slice b us.length y) := by rw [hws, World.cell?_setCell_other _ _ _ _ (addr_ne (Or.inl (by omega)))]; exact hc1
  have E2 : ws.cell? ⟨w.heap.size + 1, 0, none⟩ = some (.slice none 0 0) := by rw [hws, World.cell?_setCell_other _ _ _ _ (addr_ne (Or.inl (by omega)))]; exact e2
  have E3 : ws.cell? ⟨w.heap.size + 1, 1, none⟩ = some (.slice none 0 0) := by rw [hws, World.cell?_setCell_other _ _ _ _ (addr_ne (Or.inl (by omega)))]; exact e3
  have E4 : ws.cell? ⟨w.heap.size + 1 + 1, 0, none⟩ = some (.slice none 0 0) := by rw [hws, World.cell?_setCell_other _ _ _ _ (addr_ne (Or.inl (by omega)))]; exact e4
  have E5 : ws.cell? ⟨w.heap.size + 1 + 1, 1, none⟩ = some (.slice none 0 0) := by rw [hws, World.cell?_setCell_other _ _ _ _ (addr_ne (Or.inl (by omega)))]; exact e5
  have I2 : ws.frozen? ⟨w.heap.size + 1, 0, none⟩ = false := by rw [hws, World.frozen?_setCell]; exact i2
  have I3 : ws.frozen? ⟨w.heap.size + 1, 1, none⟩ = false := by rw [hws, World.frozen?_setCell]; exact i3
  have I4 : ws.frozen? ⟨w.heap.size + 1 + 1, 0, none⟩ = false := by rw [hws, World.frozen?_setCell]; exact i4
  have I5 : ws.frozen? ⟨w.heap.size + 1 + 1, 1, none⟩ = false := by rw [hws, World.frozen?_setCell]; exact i5
  have hrow5 := (HROW5.out.stored 0 (.string ⟨#[]⟩)).1
  rw [cells_headless _ hdl, ← hws] at hrow5
  have hrow4 := ownsRow_setCell_other (a := ⟨g5, 0, none⟩) HROW4.out (fun e => by simp [Value.ownBlock] at e; omega) (.string ⟨#[]⟩)
  rw [← hws] at hrow4
  have S4 := Lib.hid (slC_row hrow4).2
  have S5 := Lib.hid (slC_row hrow5).2
  have hBs : Below w.heap.size w ws := by rw [hws]; exact (hWB.trans (HXc.out.mono (by omega))).setCell (p := ⟨g5, 0, none⟩) (by show w.heap.size ≤ g5; omega) _
  have hzs : wc.heap.size = ws.heap.size := by rw [hws, World.size_setCell]
  have hzs' : wc.heap.size ≤ ws.heap.size := by omega
  have hpl := World.block_lt_of_cell? ws _ P0
  have hql := World.block_lt_of_cell? ws _ Q0
  have HUs := Lib.hid (HU.out.kept hBs (Nat.le_refl _))
  have HBs := Lib.hid hBs
  clear hws hzs p0 p1 q0 q1 pf qf hc1 e2 e3 e4 e5 i2 i3 i4 i5 hrow4 hrow5 k0 kf HROW4 HROW5 HXc hdl hBs
  have hcu := fun W' h => cut_next b _ y us [] low W' rfl h hu hr
  have HCU := Lib.hid hcu
  clear hcu hr
  generalize hI : cutIn us [] low = I at *
  generalize hO : cutOut us [] low = O at *
  have HI := Lib.hid hI
  have HO := Lib.hid hO
  clear hI hO
  go_wp2_with fail
  refine (thread (HCU.out ws (BoxU.mk ⟨_, rfl, HUs.out⟩)) ws.heap.size ws (by go_grown) (by go_grown)).mono ?_
  rintro e w7 ⟨⟨a1, z1, a2, z2, rfl, hi7, ho7⟩, hX7, -, -, hs7, hz7⟩
  have m0 := kept_cell hX7 P0
  have m1 := kept_cell hX7 P1
  have m2 := kept_cell hX7 Q0
  have m3 := kept_cell hX7 Q1
  have mf := ((bcell hX7).2 p 1 hpl).trans PF
  have mg := ((bcell hX7).2 q 1 hql).trans QF
  have n2 := kept_cell hX7 E2
  have n3 := kept_cell hX7 E3
  have n4 := kept_cell hX7 E4
  have n5 := kept_cell hX7 E5
  have o2 := ((bcell hX7).2 (w.heap.size + 1) 0 (by omega)).trans I2
  have o3 := ((bcell hX7).2 (w.heap.size + 1) 1 (by omega)).trans I3
  have o4 := ((bcell hX7).2 (w.heap.size + 1 + 1) 0 (by omega)).trans I4
  have o5 := ((bcell hX7).2 (w.heap.size + 1 + 1) 1 (by omega)).trans I5
  have HB7 := Lib.hid (And.intro hi7 (And.intro ho7 (And.intro (S4.out.kept hX7 (Nat.le_refl _)) (S5.out.kept hX7 (Nat.le_refl _)))))
  have HX7 := Lib.hid (HBs.out.trans (hX7.mono (by omega)))
  clear hi7 ho7 hX7 P0 P1 Q0 Q1 PF QF C1 E2 E3 E4 E5 I2 I3 I4 I5 S4 S5 HCU
  have hqp : ¬ q = p := fun e => hpq e.symm
  go_upto_region 8 with (fail)
  obtain ⟨wz, hwz⟩ : ∃ wz, wz = (w7.setCell ⟨p, 1, none⟩ (.slice a1 I.length z1)).setCell ⟨q, 1, none⟩ (.slice a2 O.length z2) := ⟨_, rfl⟩
  rw [← hwz]
  have m3' : (w7.setCell ⟨p, 1, none⟩ (.slice a1 I.length z1)).cell? ⟨q, 1, none⟩ = some (.slice none 0 0) := (World.cell?_setCell_other _ _ _ _ (addr_ne (Or.inl hpq))).trans m3
  have P0 : wz.cell? ⟨p, 0, none⟩ = some (.slice (some ⟨g4, 0, none⟩) m y4) := by rw [hwz, World.cell?_setCell_other _ _ _ _ (addr_ne (Or.inl hqp)), World.cell?_setCell_other _ _ _ _ (addr_ne (Or.inr (by decide)))]; exact m0
  have P1 : wz.cell? ⟨p, 1, none⟩ = some (.slice a1 I.length z1) := by rw [hwz, World.cell?_setCell_other _ _ _ _ (addr_ne (Or.inl hqp))]; exact World.cell?_setCell_same _ _ _ m1
  have Q0 : wz.cell? ⟨q, 0, none⟩ = some (.slice (some ⟨g5, 0, none⟩) (cs.length - m) y5) := by rw [hwz, World.cell?_setCell_other _ _ _ _ (addr_ne (Or.inr (by decide))), World.cell?_setCell_other _ _ _ _ (addr_ne (Or.inl hpq))]; exact m2
  have Q1 : wz.cell? ⟨q, 1, none⟩ = some (.slice a2 O.length z2) := by rw [hwz]; exact World.cell?_setCell_same _ _ _ m3'
  have E2 : wz.cell? ⟨w.heap.size + 1, 0, none⟩ = some (.slice none 0 0) := by rw [hwz, World.cell?_setCell_other _ _ _ _ (addr_ne (Or.inl (by omega))), World.cell?_setCell_other _ _ _ _ (addr_ne (Or.inl (by omega)))]; exact n2
  have E3 : wz.cell? ⟨w.heap.size + 1, 1, none⟩ = some (.slice none 0 0) := by rw [hwz, World.cell?_setCell_other _ _ _ _ (addr_ne (Or.inl (by omega))), World.cell?_setCell_other _ _ _ _ (addr_ne (Or.inl (by omega)))]; exact n3
  have E4 : wz.cell? ⟨w.heap.size + 1 + 1, 0, none⟩ = some (.slice none 0 0) := by rw [hwz, World.cell?_setCell_other _ _ _ _ (addr_ne (Or.inl (by omega))), World.cell?_setCell_other _ _ _ _ (addr_ne (Or.inl (by omega)))]; exact n4
  have E5 : wz.cell? ⟨w.heap.size + 1 + 1, 1, none⟩ = some (.slice none 0 0) := by rw [hwz, World.cell?_setCell_other _ _ _ _ (addr_ne (Or.inl (by omega))), World.cell?_setCell_other _ _ _ _ (addr_ne (Or.inl (by omega)))]; exact n5
  have I2 : wz.frozen? ⟨w.heap.size + 1, 0, none⟩ = false := by rw [hwz, World.frozen?_setCell, World.frozen?_setCell]; exact o2
  have I3 : wz.frozen? ⟨w.heap.size + 1, 1, none⟩ = false := by rw [hwz, World.frozen?_setCell, World.frozen?_setCell]; exact o3
  have I4 : wz.frozen? ⟨w.heap.size + 1 + 1, 0, none⟩ = false := by rw [hwz, World.frozen?_setCell, World.frozen?_setCell]; exact o4
  have I5 : wz.frozen? ⟨w.heap.size + 1 + 1, 1, none⟩ = false := by rw [hwz, World.frozen?_setCell, World.frozen?_setCell]; exact o5
  have HZ := Lib.hid (show BoxU wz (.agg #[.slice a1 I.length z1]) I ∧ BoxU wz (.agg #[.slice a2 O.length z2]) O ∧ SlC wz (.slice (some ⟨g4, 0, none⟩) m y4) (cs.take m) ∧ SlC wz (.slice (some ⟨g5, 0, none⟩) (cs.length - m) y5) (headless (cs.drop m)) from by
   rw [hwz]
   exact ⟨(HB7.out.1.setAt m1 _).setAt m3' _, (HB7.out.2.1.setAt m1 _).setAt m3' _, (HB7.out.2.2.1.setAt m1 _).setAt m3' _, (HB7.out.2.2.2.setAt m1 _).setAt m3' _⟩)
  have HXZ := Lib.hid (show Below w.heap.size w wz by rw [hwz]; exact (HX7.out.setCell (p := ⟨p, 1, none⟩) (by show w.heap.size ≤ p; omega) _).setCell (p := ⟨q, 1, none⟩) (by show w.heap.size ≤ q; omega) _)
  have hpN : w.heap.size + 3 ≤ p := by omega
  have hqN : w.heap.size + 3 ≤ q := by omega
  clear hwz m0 m1 m2 m3 m3' mf mg n2 n3 n4 n5 o2 o3 o4 o5 HB7 HX7 hs7 hz7 hzs' hpl hql HUs HBs hzc hg5c hpW hqW h4p h4q h5p h5q hb4 hb5 h45 hsl1 hsl2 hkx hWs hWB
  have hne1 : ¬ w.heap.size + 1 = p := by omega
  have hne2 : ¬ w.heap.size + 1 = q := by omega
  have hne3 : ¬ w.heap.size + 1 + 1 = p := by omega
  have hne4 : ¬ w.heap.size + 1 + 1 = q := by omega
  go_region
  all_goals
   go_wp2_with fail
   have t3 : (wz.setCell ⟨w.heap.size + 1, 0, none⟩ (.slice (some ⟨g4, 0, none⟩) m y4)).cell? ⟨w.heap.size + 1, 1, none⟩ = some (.slice none 0 0) := (World.cell?_setCell_other _ _ _ _ (addr_ne (Or.inr (by decide)))).trans E3
   have t4 : ((wz.setCell ⟨w.heap.size + 1, 0, none⟩ (.slice (some ⟨g4, 0, none⟩) m y4)).setCell ⟨w.heap.size + 1, 1, none⟩ (.slice a1 I.length z1)).cell? ⟨w.heap.size + 1 + 1, 0, none⟩ = some (.slice none 0 0) := (World.cell?_setCell_other _ _ _ _ (addr_ne (Or.inl (by omega)))).trans ((World.cell?_setCell_other _ _ _ _ (addr_ne (Or.inl (by omega)))).trans E4)
   have t5 : (((wz.setCell ⟨w.heap.size + 1, 0, none⟩ (.slice (some ⟨g4, 0, none⟩) m y4)).setCell ⟨w.heap.size + 1, 1, none⟩ (.slice a1 I.length z1)).setCell ⟨w.heap.size + 1 + 1, 0, none⟩ (.slice (some ⟨g5, 0, none⟩) (cs.length - m) y5)).cell? ⟨w.heap.size + 1 + 1, 1, none⟩ = some (.slice none 0 0) := (World.cell?_setCell_other _ _ _ _ (addr_ne (Or.inr (by decide)))).trans ((World.cell?_setCell_other _ _ _ _ (addr_ne (Or.inl (by omega)))).trans ((World.cell?_setCell_other _ _ _ _ (addr_ne (Or.inl (by omega)))).trans E5))
   have hE := (((HXZ.out.setCell (p := ⟨w.heap.size + 1, 0, none⟩) (by simp) (.slice (some ⟨g4, 0, none⟩) m y4)).setCell (p := ⟨w.heap.size + 1, 1, none⟩) (by simp) (.slice a1 I.length z1)).setCell (p := ⟨w.heap.size + 1 + 1, 0, none⟩) (by simp; omega) (.slice (some ⟨g5, 0, none⟩) (cs.length - m) y5)).setCell (p := ⟨w.heap.size + 1 + 1, 1, none⟩) (by simp; omega) (.slice a2 O.length z2)
   have hI := (((HZ.out.1.setAt E2 (.slice (some ⟨g4, 0, none⟩) m y4)).setAt t3 (.slice a1 I.length z1)).setAt t4 (.slice (some ⟨g5, 0, none⟩) (cs.length - m) y5)).setAt t5 (.slice a2 O.length z2)
   have hO := (((HZ.out.2.1.setAt E2 (.slice (some ⟨g4, 0, none⟩) m y4)).setAt t3 (.slice a1 I.length z1)).setAt t4 (.slice (some ⟨g5, 0, none⟩) (cs.length - m) y5)).setAt t5 (.slice a2 O.length z2)
   have hC := (((HZ.out.2.2.1.setAt E2 (.slice (some ⟨g4, 0, none⟩) m y4)).setAt t3 (.slice a1 I.length z1)).setAt t4 (.slice (some ⟨g5, 0, none⟩) (cs.length - m) y5)).setAt t5 (.slice a2 O.length z2)
   have hD := (((HZ.out.2.2.2.setAt E2 (.slice (some ⟨g4, 0, none⟩) m y4)).setAt t3 (.slice a1 I.length z1)).setAt t4 (.slice (some ⟨g5, 0, none⟩) (cs.length - m) y5)).setAt t5 (.slice a2 O.length z2)
   obtain ⟨sI, eI, hI'⟩ := hI
   simp only [Value.agg.injEq, Array.mk.injEq, List.cons.injEq, and_true] at eI
   subst eI
   obtain ⟨sO, eO, hO'⟩ := hO
   simp only [Value.agg.injEq, Array.mk.injEq, List.cons.injEq, and_true] at eO
   subst eO
   refine bodyPost_ret (v := .tuple #[.agg #[.slice (some ⟨g4, 0, none⟩) m y4, .slice a1 I.length z1], .agg #[.slice (some ⟨g5, 0, none⟩) (cs.length - m) y5, .slice a2 O.length z2], .string (S low), .bool true]) ?_ rfl ⟨⟨.agg #[.slice (some ⟨g4, 0, none⟩) m y4, .slice a1 I.length z1], .agg #[.slice (some ⟨g5, 0, none⟩) (cs.length - m) y5, .slice a2 O.length z2], ?_, ?_, ?_⟩, below_drew' hE⟩
   ·simp [results, Tryz.results98, go_sem, E2, E3, E4, E5]
   ·rw [HLOW.out]
   ·rw [HLOW.out, HI.out]; exact (NodeAt.mk' hC hI').kept (below_drew' (Below.refl _ _)) (Nat.le_refl _)
   ·rw [HLOW.out, HO.out]; exact (NodeAt.mk' hD hO').kept (below_drew' (Below.refl _ _)) (Nat.le_refl _)
open Go.RowKit
attribute [local go_sem ↓] Go.wp_at_zero Go.wp_at_succ
structure Okay (u : Upd) : Prop where
 wf : u.Wf
 check : u.check = 0
theorem Okay.kind {u : Upd} (h : Okay u) : u.kind = 1 ∨ u.kind = 2 ∨ u.kind = 3 := by have := Upd.check_ok h.check; omega
theorem Okay.klen {u : Upd} (h : Okay u) : u.key.length ≤ 16 := (Upd.check_ok h.check).2.1
theorem Okay.vlen {u : Upd} (h : Okay u) : u.val.length ≤ 32 := (Upd.check_ok h.check).2.2.1
theorem Okay.val {u : Upd} (h : Okay u) : u.kind = 1 ∨ u.val = [] := (Upd.check_ok h.check).2.2.2.2.2.1
theorem Okay.delta {u : Upd} (h : Okay u) : u.kind = 3 ∨ u.delta = 0 := (Upd.check_ok h.check).2.2.2.2.2.2
theorem bytes_ok (k : Nat) (key val : List UInt8) (d : Nat) (hu : Okay ⟨k, key, val, d⟩) (w : World) :
  Calls Tryz.prog 182 #[.agg #[.int .u8 k, .string (S key), .string (S val), .int .u64 d]] w fun e w' => e = .returned (.string (S (Upd.mk k key val d).bytes)) ∧ Below w.heap.size w w' := by
 have hkl : key.length ≤ 16 := hu.klen
 have hvl : val.length ≤ 32 := hu.vlen
 have hd : d < 18446744073709551616 := hu.wf.2
 have hkk := hu.kind
 have hb1 := bytes_put ⟨k, key, val, d⟩
 have hb2 := bytes_del ⟨k, key, val, d⟩
 have hb3 := bytes_add ⟨k, key, val, d⟩
 have hcv := fun w n c => run_str1 (P := Tryz.prog) 22 9 5 Tryz.underlying22 Tryz.underlying5 Tryz.underlying9 w n c
 have HJK := Lib.hid (fun W => lendJoin_any key (by omega) W)
 have HJV := Lib.hid (fun W => lendJoin_any val (by omega) W)
 dsimp only at hkk hb1 hb2 hb3
 generalize (Upd.mk k key val d).bytes = B at *
 have hJK := joinT_len key
 have hJV := joinT_len val
 generalize joinT key = JK at *
 generalize joinT val = JV at *
 have hJKl : JK.length ≤ 17 := by omega
 have hJVl : JV.length ≤ 33 := by omega
 clear hu hkl hvl hJK hJV
 rcases hkk with rfl | rfl | rfl
 ·have HB := Lib.hid (hb1 rfl)
  clear hb1 hb2 hb3
  go_enter Tryz.func182, Tryz.ntmps182
  go_wp2_with fail
  refine (thread (HJK.out _) _ _ (Below.refl _ _) (Nat.le_refl _)).mono ?_
  rintro e w1 ⟨rfl, hX1, hk1, -, -, hz1⟩
  have c0 : w1.cell? ⟨w.heap.size, 0, none⟩ = some (.int .u8 1) := (hk1 w.heap.size 0 (by simp)).trans (by simp)
  have c2 : w1.cell? ⟨w.heap.size, 2, none⟩ = some (.string (S val)) := (hk1 w.heap.size 2 (by simp)).trans (by simp)
  have HB1 := Lib.hid (show Below w.heap.size w w1 from Below.trans (by go_grown) (hX1.mono (by simp)))
  have d0 := cell_past (.cells #[.int .u8 1] 5) c0
  have d2 := cell_past (.cells #[.int .u8 1] 5) c2
  have hzz := HB1.out.size
  clear hk1 hX1 hz1
  go_wp2_with fail
  refine (thread (HJV.out _) w1.heap.size w1 (by go_grown) (by go_grown)).mono ?_
  rintro e w2 ⟨rfl, hX2, -, -, -, hz2⟩
  have hB2 := HB1.out.trans (hX2.mono hzz)
  go_wp2_with fail
  go_ret
  exact ⟨ret_val (by rw [HB.out]; simp), hB2⟩
 ·have HB := Lib.hid (hb2 rfl)
  clear hb1 hb2 hb3
  go_enter Tryz.func182, Tryz.ntmps182
  go_wp2_with fail
  refine (thread (HJK.out _) _ _ (Below.refl _ _) (Nat.le_refl _)).mono ?_
  rintro e w1 ⟨rfl, hX1, hk1, -, -, hz1⟩
  have c0 : w1.cell? ⟨w.heap.size, 0, none⟩ = some (.int .u8 2) := (hk1 w.heap.size 0 (by simp)).trans (by simp)
  have HB1 := Lib.hid (show Below w.heap.size w w1 from Below.trans (by go_grown) (hX1.mono (by simp)))
  have d0 := cell_past (.cells #[.int .u8 2] 5) c0
  have hzz := HB1.out.size
  clear hk1 hX1 hz1
  go_wp2_with fail
  go_ret
  exact ⟨ret_val (by rw [HB.out]; simp), HB1.out.alloc hzz _⟩
 ·have HB := Lib.hid (hb3 rfl)
  clear hb1 hb2 hb3
  go_enter Tryz.func182, Tryz.ntmps182
  go_wp2_with fail
  refine (thread (HJK.out _) _ _ (Below.refl _ _) (Nat.le_refl _)).mono ?_
  rintro e w1 ⟨rfl, hX1, hk1, -, -, hz1⟩
  have c0 : w1.cell? ⟨w.heap.size, 0, none⟩ = some (.int .u8 3) := (hk1 w.heap.size 0 (by simp)).trans (by simp)
  have c3 : w1.cell? ⟨w.heap.size, 3, none⟩ = some (.int .u64 d) := (hk1 w.heap.size 3 (by simp)).trans (by simp)
  have HB1 := Lib.hid (show Below w.heap.size w w1 from Below.trans (by go_grown) (hX1.mono (by simp)))
  have d0 := cell_past (.cells #[.int .u8 3] 5) c0
  have d3 := cell_past (.cells #[.int .i64 8] 3) (cell_past (.cells #[.int .u8 3] 5) c3)
  have hzz := HB1.out.size
  have hI := (intsW_lies (w1.alloc (.cells #[.int .u8 3] 5)) (w1.heap.size + 1) (by simp) #[.int .i64 8] 3 [(8, d)] rfl).kept (Below.alloc (Below.refl _ _) (Nat.le_refl _) (.cells #[.int .u64 d] 25)) (Nat.le_refl _)
  have hN := numsW_lies ((w1.alloc (.cells #[.int .u8 3] 5)).alloc (.cells #[.int .i64 8] 3)) (w1.heap.size + 1 + 1) (by simp) #[.int .u64 d] 25 [(8, d)] rfl
  have hwr := write_fit _ _ 1 1 [(8, d)] _ hI hN (wide1 8 d (by decide) (by decide)) (fun p hp => by rw [List.mem_singleton] at hp; rw [hp]; exact hd) (by simp)
  have hwt : wtext [(8, d)] = le d 8 := by simp [wtext]
  rw [hwt] at hwr
  have HWR := Lib.hid hwr
  clear hk1 hX1 hz1 hwr hI hN hwt
  go_wp2_with fail
  refine (thread HWR.out w1.heap.size w1 (by go_grown) (by go_grown)).mono ?_
  rintro e w2 ⟨rfl, hX2, -, -, -, hz2⟩
  have hB2 := HB1.out.trans (hX2.mono hzz)
  go_wp2_with fail
  go_ret
  exact ⟨ret_val (by rw [HB.out]; simp), hB2⟩
theorem bytes_60 {u : Upd} (h : Okay u) : u.bytes.length ≤ 60 := by
 have h1 := h.klen
 have h2 := h.vlen
 rcases h.kind with k | k | k
 ·rw [bytes_put u k, List.length_append, List.length_append, joinT_len, joinT_len, List.length_singleton]; omega
 ·rw [bytes_del u k, List.length_append, joinT_len, List.length_singleton]; omega
 ·rw [bytes_add u k, List.length_append, List.length_append, joinT_len, le_length, List.length_singleton]; omega
theorem textU_len60 : ∀ l : List Upd, (∀ u ∈ l, Okay u) → (textU l).length ≤ 60 * l.length
 | [], _ => by simp [textU]
 | u :: l, h => by
  have h1 := textU_len60 l (fun x hx => h x (List.mem_cons_of_mem _ hx))
  have h2 := bytes_60 (h u (List.mem_cons_self ..))
  have h3 : (textU (u :: l)).length = u.bytes.length + (textU l).length := by simp [textU]
  rw [h3, List.length_cons]; omega
theorem textAcc_ok : ∀ (l : List Upd) (acc : List UInt8), (∀ u ∈ l, u.check = 0) → textAcc acc l = (acc ++ textU l, 0)
 | [], acc, _ => by simp [textAcc, textU]
 | u :: l, acc, h => by
  rw [textAcc, if_pos (h u (List.mem_cons_self ..)), textAcc_ok l _ (fun x hx => h x (List.mem_cons_of_mem _ hx))]
  simp [textU]
theorem textAcc_at {l : List Upd} {j : Nat} (hj : j < l.length) (ho : ∀ u ∈ l.take j, u.check = 0) (hc : ¬ (l[j]).check = 0) (acc : List UInt8) : textAcc acc l = ([], (l[j]).check) := by
 induction l generalizing acc j with
 | nil => simp at hj
 | cons u l ih =>
  cases j with
  | zero => rw [textAcc, if_neg (by simpa using hc)]; simp
  | succ j =>
   rw [textAcc, if_pos (ho u (by simp))]
   exact ih (by simpa using hj) (fun x hx => ho x (by simp [hx])) (by simpa using hc) _
theorem recText_gen (a : Option Addr) (n c : Nat) (l : List Upd) (w : World) (hn : n = l.length) (hs : SlAt Upd.cells 4 w a l) (hl : l.length ≤ 10000) (hf : ∀ u ∈ l, u.Wf) :
  Calls Tryz.prog 167 #[.slice a n c] w fun e w' => e = .returned (.tuple #[.string (S (textAcc [] l).1), .int .i64 (textAcc [] l).2]) ∧ Below w.heap.size w w' := by
 have HN := Lib.hid hn
 clear hn
 go_enter Tryz.func167, Tryz.ntmps167
 go_wp2_with fail
 go_loopw [10] (fun i wr => ∃ j : Nat, i = .int .i64 j ∧ j ≤ n ∧ Hid (∀ u ∈ l.take j, Okay u) ∧ IsB w.heap.size w.heap.size (Lib.byteCells (textU (l.take j))) wr ∧ Below w.heap.size w wr ∧ w.heap.size < wr.heap.size) (fun i _ => n - (intOf i).toNat)
 case atStart => exact ⟨0, rfl, Nat.zero_le _, Lib.hid (fun u hu => by simp at hu), by simpa [textU, Lib.byteCells] using Lib.fresh_isBuilder 200 5 w, by go_grown, by simp⟩
 case round =>
  obtain ⟨j, rfl, hj, HT, hI, hB, hz⟩ := hrel
  have hj0 : (0 : Int) ≤ (j : Int) := Int.natCast_nonneg _
  have HI := Lib.hid hI
  clear hI
  by_cases hjn : j < n
  ·have hj1 : (j : Int) < (n : Int) := by omega
   have hjl : j < l.length := by have := HN.out; omega
   obtain ⟨b, off, rfl, hb, t0, t1, t2, t3⟩ := SlAt.cells4 hs j hjl
   have q0 := (cell_below hB hb _).trans t0
   have q1 := (cell_below hB hb _).trans t1
   have q2 := (cell_below hB hb _).trans t2
   have q3 := (cell_below hB hb _).trans t3
   have hW := hf _ (List.getElem_mem hjl)
   have hst := Lib.hid (textU_step hjl)
   have htl := textU_len60 (l.take j) HT.out
   rw [List.length_take] at htl
   have HTK := Lib.hid (show l.take (j + 1) = l.take j ++ [l[j]] from List.take_succ_eq_append_getElem hjl)
   have HST := Lib.hid (fun hc : ¬ (l[j]).check = 0 => textAcc_at hjl (fun u hu => (HT.out u hu).check) hc [])
   clear t0 t1 t2 t3
   generalize l[j] = u at *
   have HC := Lib.hid (fun W => chk u.kind u.key u.val u.delta hW.1 hW.2 W)
   rw [show Upd.mk u.kind u.key u.val u.delta = u from rfl] at HC
   by_cases hck : u.check = 0
   ·have hT : Okay u := ⟨hW, hck⟩
    have hbl := bytes_60 hT
    have HOK := Lib.hid (show ∀ x ∈ l.take (j + 1), Okay x from by rw [HTK.out]; exact fun x hx => (List.mem_append.1 hx).elim (HT.out x) (fun e => by rw [List.mem_singleton.1 e]; exact hT))
    rw [hck] at HC
    have HBY := Lib.hid (fun W => bytes_ok u.kind u.key u.val u.delta hT W)
    rw [show (Upd.mk u.kind u.key u.val u.delta).bytes = u.bytes from rfl] at HBY
    generalize u.bytes = UB at *
    clear hT hck hW HST HTK
    go_wp2_with fail
    refine (thread (HC.out _) wr.heap.size wr (by go_grown) (by go_grown)).mono ?_
    rintro e w1 ⟨rfl, hX1, hk1, -, -, hz1⟩
    have e0 : w1.cell? ⟨wr.heap.size, 0, none⟩ = some (.int .u8 u.kind) := (hk1 wr.heap.size 0 (by simp)).trans (by simp)
    have e1 : w1.cell? ⟨wr.heap.size, 1, none⟩ = some (.string (S u.key)) := (hk1 wr.heap.size 1 (by simp)).trans (by simp)
    have e2 : w1.cell? ⟨wr.heap.size, 2, none⟩ = some (.string (S u.val)) := (hk1 wr.heap.size 2 (by simp)).trans (by simp)
    have e3 : w1.cell? ⟨wr.heap.size, 3, none⟩ = some (.int .u64 u.delta) := (hk1 wr.heap.size 3 (by simp)).trans (by simp)
    clear hk1
    go_wp2_with fail
    refine (thread (HBY.out _) wr.heap.size wr hX1 hz1).mono ?_
    rintro e w2 ⟨rfl, hX2, -, -, -, hz2⟩
    have HI2 := Lib.hid (HI.out.on hX2)
    have hB2 := hB.trans (hX2.mono hB.size)
    have HW := Lib.hid (bld_write w.heap.size w.heap.size _ (S UB) w2 HI2.out (by rw [Lib.byteCells_length, S_size]; omega) hB2.size)
    clear HI HC HBY hX1 hX2 e0 e1 e2 e3 htl hbl
    go_wp2_with fail
    refine (HW.out).mono ?_
    rintro e w3 ⟨rfl, hI3, hX3⟩
    rw [strCells_S, ← byteCells_app, ← hst.out] at hI3
    have hB3 := hB2.trans hX3
    have hz3 : w.heap.size < w3.heap.size := by have := hX3.size; omega
    clear HW
    go_wp2_with fail
    go_roundw
    (case rel => exact (⟨j + 1, by go_num, by omega, HOK, hI3, hB3, hz3⟩))
    (case measure => first | (simp [intOf]; done) | (simp [intOf]; omega))
   ·have HS := Lib.hid (HST.out hck)
    clear HST HTK hst
    go_wp2_with fail
    refine (thread (HC.out _) wr.heap.size wr (by go_grown) (by go_grown)).mono ?_
    rintro e w1 ⟨rfl, hX1, hk1, -, -, hz1⟩
    have hck' : ¬ ((u.check : Nat) : Int) = 0 := by omega
    have hBX := hB.trans (hX1.mono hB.size)
    clear HC hk1 hX1
    go_wp2_with fail
    go_ret2
    exact ⟨by rw [HS.out]; rfl, hBX⟩
  ·obtain rfl : j = n := by omega
   have hta : l.take j = l := by rw [HN.out, List.take_length]
   rw [hta] at HI HT
   have HTL := HT
   clear hta
   go_wp2_with fail
   refine (bld_string w.heap.size w.heap.size (textU l) wr HI.out (by omega)).mono ?_
   rintro e w1 ⟨rfl, hX1⟩
   go_wp2_with fail
   go_ret2
   exact ⟨by rw [textAcc_ok l [] (fun u hu => (HTL.out u hu).check)]; rfl, hB.trans hX1⟩
theorem bufText_gen (a : Option Addr) (n c : Nat) (l : List Upd) (w : World) (hn : n = l.length) (hs : SlAt Upd.cells 4 w a l) (hl : l.length ≤ 10000) (hf : ∀ u ∈ l, u.Wf) :
  Calls Tryz.prog 138 #[.agg #[.slice a n c]] w fun e w' => e = .returned (.tuple #[.string (S (textAcc [] l).1), .int .i64 (textAcc [] l).2]) ∧ Below w.heap.size w w' := by
 have HS := Lib.hid hs
 have HT := Lib.hid (fun W h => recText_gen a n c l W hn h hl hf)
 clear hs hn hf hl
 go_enter Tryz.func138, Tryz.ntmps138
 go_wp2_with fail
 refine (thread (HT.out _ (HS.out.kept (B := w.heap.size) (by go_grown) (Nat.le_refl _))) w.heap.size w (by go_grown) (by go_grown)).mono ?_
 rintro e w1 ⟨rfl, hX1, -, -, -, hz1⟩
 go_wp2_with fail
 go_ret2
 exact ⟨rfl, hX1⟩
end Go.Proofs.YtafciefjlkdecaaGreat
namespace Go.Proofs.YtafciefjlkdecaaGreat
open Go.RowKit
theorem ofNat_toNat_lt {n : Nat} (h : n < 256) : (UInt8.ofNat n).toNat = n := by rw [UInt8.toNat_ofNat']; exact Nat.mod_eq_of_lt h
theorem splitL_join (k r : List UInt8) (h : k.length ≤ 255) : splitL (joinT k ++ r) = (k, r, true) := by
 simp [splitL, joinT, ofNat_toNat_lt (show k.length < 256 by omega)]
theorem splitL_of {s : List UInt8} (h : (splitL s).2.2 = true) : s = joinT (splitL s).1 ++ (splitL s).2.1 ∧ (splitL s).1.length ≤ 255 := by
 cases s with
 | nil => simp [splitL] at h
 | cons b t =>
  have hb := b.toNat_lt
  unfold splitL at h ⊢
  by_cases hc : t.length < b.toNat
  ·simp [hc] at h
  ·simp only [if_neg hc]
   have hl : (t.take b.toNat).length = b.toNat := by rw [List.length_take]; omega
   refine ⟨?_, by rw [hl]; omega⟩
   unfold joinT
   rw [hl]
   have : UInt8.ofNat b.toNat = b := by simp
   rw [this]; simp
theorem stepU_bytes {u : Upd} (h : Okay u) (r : List UInt8) : stepU (u.bytes ++ r) = some (u, r) := by
 obtain ⟨k, key, val, d⟩ := u
 have hk := h.klen
 have hv := h.vlen
 have hc := h.check
 have hva := h.val
 have hde := h.delta
 have hwf := h.wf
 dsimp only at hk hv hva hde
 rcases h.kind with hh | hh | hh <;> (dsimp only at hh; subst hh)
 ·have e0 : d = 0 := by rcases hde with e | e; · exact absurd e (by decide)
                        ·exact e
  subst e0
  rw [bytes_put _ rfl]
  dsimp only
  show stepU (UInt8.ofNat 1 :: (joinT key ++ joinT val) ++ r) = _
  rw [show UInt8.ofNat 1 :: (joinT key ++ joinT val) ++ r = UInt8.ofNat 1 :: (joinT key ++ (joinT val ++ r)) by simp]
  unfold stepU
  dsimp only
  rw [splitL_join key _ (by omega)]
  simp only [if_true, restU]
  rw [ofNat_toNat_lt (by decide), if_pos rfl, splitL_join val _ (by omega)]
  simp [hc]
 ·have e0 : d = 0 := by rcases hde with e | e; · exact absurd e (by decide)
                        ·exact e
  have e1 : val = [] := by rcases hva with e | e; · exact absurd e (by decide)
                           ·exact e
  subst e0 e1
  rw [bytes_del _ rfl]
  dsimp only
  rw [show [UInt8.ofNat 2] ++ joinT key ++ r = UInt8.ofNat 2 :: (joinT key ++ r) by simp]
  unfold stepU
  dsimp only
  rw [splitL_join key _ (by omega)]
  simp only [if_true, restU]
  rw [ofNat_toNat_lt (by decide), if_neg (by decide), if_neg (by decide)]
  simp [hc]
 ·have e1 : val = [] := by rcases hva with e | e; · exact absurd e (by decide)
                           ·exact e
  subst e1
  rw [bytes_add _ rfl]
  dsimp only
  rw [show [UInt8.ofNat 3] ++ joinT key ++ le d 8 ++ r = UInt8.ofNat 3 :: (joinT key ++ (le d 8 ++ r)) by simp]
  unfold stepU
  dsimp only
  rw [splitL_join key _ (by omega)]
  simp only [if_true, restU]
  rw [ofNat_toNat_lt (by decide), if_neg (by decide), if_pos rfl, if_neg (by rw [List.length_append, le_length]; omega)]
  have hd : d < 18446744073709551616 := hwf.2
  rw [List.take_left' (le_length d 8), List.drop_left' (le_length d 8), numL_le, Nat.mod_eq_of_lt (by show d < 256 ^ 8; simpa using hd)]
  simp [hc]
theorem stepU_of {s r : List UInt8} {u : Upd} (h : stepU s = some (u, r)) : s = u.bytes ++ r := by
 have hok := stepU_ok h
 unfold stepU at h
 split at h
 ·simp at h
 ·rename_i b t
  split at h
  ·rename_i hsp
   obtain ⟨h1, -⟩ := splitL_of hsp
   have hb := b.toNat_lt
   have hbb : UInt8.ofNat b.toNat = b := by simp
   split at h
   ·simp at h
   ·rename_i u' m' hr
    split at h
    ·simp only [Option.some.injEq, Prod.mk.injEq] at h
     obtain ⟨rfl, rfl⟩ := h
     unfold restU at hr
     split at hr
     ·rename_i hb1
      split at hr
      ·rename_i hv
       simp only [Option.some.injEq, Prod.mk.injEq] at hr
       obtain ⟨rfl, rfl⟩ := hr
       obtain ⟨h2, -⟩ := splitL_of hv
       rw [bytes_put _ rfl]
       dsimp only
       rw [show UInt8.ofNat 1 = b by rw [← hbb, hb1]]
       conv => lhs; rw [h1, h2]
       simp
      ·simp at hr
     ·split at hr
      ·rename_i hb3
       split at hr
       ·simp at hr
       ·rename_i hl
        simp only [Option.some.injEq, Prod.mk.injEq] at hr
        obtain ⟨rfl, rfl⟩ := hr
        rw [bytes_add _ rfl]
        dsimp only
        rw [show UInt8.ofNat 3 = b by rw [← hbb, hb3]]
        have hl8 : ((splitL t).2.1.take 8).length = 8 := by rw [List.length_take]; omega
        have e := le_numL ((splitL t).2.1.take 8)
        rw [hl8] at e
        rw [e]
        conv => lhs; rw [h1]
        simp
      ·rename_i hb1 hb3
       simp only [Option.some.injEq, Prod.mk.injEq] at hr
       obtain ⟨rfl, rfl⟩ := hr
       have hk := (Upd.check_ok hok.2)
       dsimp only at hk
       have hb2 : b.toNat = 2 := by omega
       rw [bytes_del _ hb2]
       dsimp only
       rw [hbb]
       conv => lhs; rw [h1]
       simp
    ·simp at h
  ·simp at h
theorem bytes_ne {u : Upd} (h : Okay u) : u.bytes ≠ [] := by
 intro e
 have := stepU_bytes h []
 rw [e] at this
 simp [stepU] at this
theorem textU_cons (u : Upd) (l : List Upd) : textU (u :: l) = u.bytes ++ textU l := rfl
theorem rawU_text : ∀ (l : List Upd), (∀ u ∈ l, Okay u) → rawU (textU l) = some l
 | [], _ => rfl
 | u :: l, h => by
  have hu := h u (List.mem_cons_self ..)
  have h0 : textU (u :: l) ≠ [] := by rw [textU_cons]; intro e; exact bytes_ne hu (List.append_eq_nil_iff.1 e).1
  rw [rawU_some h0 (by rw [textU_cons]; exact stepU_bytes hu _), rawU_text l (fun x hx => h x (List.mem_cons_of_mem _ hx))]
  rfl
theorem rawUN_back : ∀ (n : Nat) (s : List UInt8) (l : List Upd), s.length ≤ n → rawUN n s = some l → s = textU l
 | 0, s, l, hn, h => by
  simp only [rawUN, Option.some.injEq] at h
  rw [← h, List.eq_nil_of_length_eq_zero (by omega : s.length = 0)]; rfl
 | n + 1, s, l, hn, h => by
  unfold rawUN at h
  split at h
  ·rename_i h0
   simp only [Option.some.injEq] at h; rw [← h, h0]; rfl
  ·split at h
   ·simp at h
   ·rename_i e r hs
    have hlt := stepU_len hs
    cases hr : rawUN n r with
    | none => rw [hr] at h; simp at h
    | some t =>
     rw [hr] at h
     simp only [Option.map_some, Option.some.injEq] at h
     rw [← h, textU_cons, ← rawUN_back n r t (by omega) hr]
     exact stepU_of hs
theorem rawU_back {s : List UInt8} {l : List Upd} (h : rawU s = some l) : s = textU l := rawUN_back _ _ _ (Nat.le_refl _) h
theorem parseU_text {l : List Upd} (h : ∀ u ∈ l, Okay u) (hr : Rising Upd.key l) : parseU (textU l) = (l, 0) := by
 unfold parseU
 rw [rawU_text l h]
 simp only
 rw [if_pos ((risingB_iff l).2 hr)]
theorem parseU_back {s : List UInt8} {l : List Upd} (h : parseU s = (l, 0)) : s = textU l ∧ (∀ u ∈ l, Okay u) ∧ Rising Upd.key l := by
 have h1 := parseU_all s
 have h2 := parseU_rising s
 rw [h] at h1 h2
 refine ⟨?_, fun u hu => ⟨(h1.2 u hu).1, (h1.2 u hu).2⟩, h2⟩
 unfold parseU at h
 split at h
 ·simp at h
 ·rename_i l' hl
  split at h
  ·simp only [Prod.mk.injEq, and_true] at h
   subst h
   exact rawU_back hl
  ·simp at h
theorem parseU_two (s : List UInt8) : (parseU s).2 = 0 ∨ parseU s = ([], 4) := by
 unfold parseU
 split
 ·exact Or.inr rfl
 ·split
  ·exact Or.inl rfl
  ·exact Or.inr rfl
theorem textU_prefix : ∀ (a b : List Upd) (r : List UInt8), (∀ u ∈ a, Okay u) → (∀ u ∈ b, Okay u) → textU a ++ r = textU b → ∃ t, b = a ++ t ∧ r = textU t
 | [], b, r, _, _, h => ⟨b, rfl, by simpa [textU] using h⟩
 | u :: a, [], r, ha, _, h => by
  rw [textU_cons, List.append_assoc] at h
  exact absurd (List.append_eq_nil_iff.1 h).1 (bytes_ne (ha u (List.mem_cons_self ..)))
 | u :: a, v :: b, r, ha, hb, h => by
  rw [textU_cons, textU_cons, List.append_assoc] at h
  have h1 := stepU_bytes (ha u (List.mem_cons_self ..)) (textU a ++ r)
  rw [h, stepU_bytes (hb v (List.mem_cons_self ..))] at h1
  simp only [Option.some.injEq, Prod.mk.injEq] at h1
  obtain ⟨rfl, h2⟩ := h1
  obtain ⟨t, rfl, rfl⟩ := textU_prefix a b r (fun x hx => ha x (List.mem_cons_of_mem _ hx)) (fun x hx => hb x (List.mem_cons_of_mem _ hx)) h2.symm
  exact ⟨t, rfl, rfl⟩
def ptrL (a g s : Nat) : List UInt8 := wtext [(4, a), (8, g), (4, s)]
theorem ptrL_len (a g s : Nat) : (ptrL a g s).length = 16 := by unfold ptrL; rw [wtext_len]; rfl
theorem ptr_wide (a g s : Nat) : Wide [(4, a), (8, g), (4, s)] := fun p hp => by
 simp only [List.mem_cons, List.not_mem_nil, or_false] at hp
 rcases hp with rfl | rfl | rfl <;> simp
theorem ptr_fit {a g s : Nat} (ha : a < 4294967296) (hg : g < 18446744073709551616) (hs : s < 4294967296) : Fit [(4, a), (8, g), (4, s)] := fun p hp => by
 simp only [List.mem_cons, List.not_mem_nil, or_false] at hp
 rcases hp with rfl | rfl | rfl
 ·exact ha
 ·exact hg
 ·exact hs
theorem wtext3 (a g s : Nat) : wtext [(4, a), (8, g), (4, s)] = le a 4 ++ (le g 8 ++ le s 4) := by simp [wtext]
theorem le_inj {k a b : Nat} (ha : a < 256 ^ k) (hb : b < 256 ^ k) (h : le a k = le b k) : a = b := by
 have h1 := numL_le k a
 have h2 := numL_le k b
 rw [h, h2] at h1
 rw [Nat.mod_eq_of_lt ha, Nat.mod_eq_of_lt hb] at h1
 exact h1.symm
theorem ptrL_inj {a g s a' g' s' : Nat} (ha : a < 4294967296) (hg : g < 18446744073709551616) (hs : s < 4294967296) (ha' : a' < 4294967296) (hg' : g' < 18446744073709551616) (hs' : s' < 4294967296) (h : ptrL a g s = ptrL a' g' s') : a = a' ∧ g = g' ∧ s = s' := by
 unfold ptrL at h
 rw [wtext3, wtext3] at h
 obtain ⟨h1, h2⟩ := List.append_inj h (by simp)
 obtain ⟨h3, h4⟩ := List.append_inj h2 (by simp)
 exact ⟨le_inj (k := 4) ha ha' h1, le_inj (k := 8) hg hg' h3, le_inj (k := 4) hs hs' h4⟩
structure ChdIs (c : Chd) : Prop where
 low : c.low.length ≤ 255
 addr : 0 ≤ c.addr ∧ c.addr < 4294967296
 gen : c.gen < 18446744073709551616
 sum : c.sum < 4294967296
structure ChdOk (c : Chd) : Prop where
 low : c.low.length ≤ 16
 addr : 0 ≤ c.addr ∧ c.addr ≤ 2147483647
 gen : c.gen < 18446744073709551616
 sum : c.sum < 4294967296
theorem ChdOk.is {c : Chd} (h : ChdOk c) : ChdIs c := ⟨by have := h.low; omega, ⟨h.addr.1, by have := h.addr.2; omega⟩, h.gen, h.sum⟩
def chT (c : Chd) : List UInt8 := joinT c.low ++ ptrL c.addr.toNat c.gen c.sum
theorem chT_inj {c d : Chd} (hc : ChdIs c) (hd : ChdIs d) {r r' : List UInt8} (h : chT c ++ r = chT d ++ r') : c = d ∧ r = r' := by
 unfold chT at h
 rw [List.append_assoc, List.append_assoc] at h
 have h1 := splitL_join c.low (ptrL c.addr.toNat c.gen c.sum ++ r) hc.low
 rw [h, splitL_join _ _ hd.low] at h1
 simp only [Prod.mk.injEq, and_true] at h1
 obtain ⟨h2, h3⟩ := h1
 obtain ⟨h4, h5⟩ := List.append_inj h3 (by rw [ptrL_len, ptrL_len])
 have a1 := hc.addr
 have a2 := hd.addr
 obtain ⟨h6, h7, h8⟩ := ptrL_inj (by omega) hd.gen hd.sum (by omega) hc.gen hc.sum h4
 refine ⟨?_, h5.symm⟩
 obtain ⟨lo, ad, ge, su⟩ := c
 obtain ⟨lo', ad', ge', su'⟩ := d
 dsimp only at *
 subst h2 h7 h8
 rw [show ad = ad' by omega]
theorem chT_len (c : Chd) : (chT c).length = c.low.length + 17 := by unfold chT; rw [List.length_append, joinT_len, ptrL_len]
def kidsT (cs : List Chd) : List UInt8 := cs.flatMap chT
theorem kidsT_cons (c : Chd) (cs : List Chd) : kidsT (c :: cs) = chT c ++ kidsT cs := rfl
theorem kidsT_app (a b : List Chd) : kidsT (a ++ b) = kidsT a ++ kidsT b := by unfold kidsT; rw [List.flatMap_append]
theorem kidsT_len : ∀ l : List Chd, (∀ c ∈ l, c.low.length ≤ 255) → (kidsT l).length ≤ 272 * l.length
 | [], _ => by simp [kidsT]
 | c :: l, h => by
  have h1 := kidsT_len l (fun x hx => h x (List.mem_cons_of_mem _ hx))
  have h2 := h c (List.mem_cons_self ..)
  rw [kidsT_cons, List.length_append, chT_len, List.length_cons]; omega
theorem kidsT_inj : ∀ (a b : List Chd) (r r' : List UInt8), a.length = b.length → (∀ c ∈ a, ChdIs c) → (∀ c ∈ b, ChdIs c) → kidsT a ++ r = kidsT b ++ r' → a = b ∧ r = r'
 | [], [], r, r', _, _, _, h => ⟨rfl, by simpa [kidsT] using h⟩
 | [], _ :: _, _, _, hl, _, _, _ => by simp at hl
 | _ :: _, [], _, _, hl, _, _, _ => by simp at hl
 | c :: a, d :: b, r, r', hl, ha, hb, h => by
  rw [kidsT_cons, kidsT_cons, List.append_assoc, List.append_assoc] at h
  obtain ⟨rfl, h1⟩ := chT_inj (ha c (List.mem_cons_self ..)) (hb d (List.mem_cons_self ..)) h
  obtain ⟨rfl, rfl⟩ := kidsT_inj a b r r' (by simpa using hl) (fun x hx => ha x (List.mem_cons_of_mem _ hx)) (fun x hx => hb x (List.mem_cons_of_mem _ hx)) h1
  exact ⟨rfl, rfl⟩
theorem kidsT_head : ∀ (a b : List Chd) (r r' : List UInt8), a.length < b.length → (∀ c ∈ a, ChdIs c) → (∀ c ∈ b, ChdIs c) → kidsT a ++ r = kidsT b ++ r' → ∃ c t, c ∈ b ∧ r = chT c ++ t
 | [], d :: b, r, r', _, _, hb, h => ⟨d, kidsT b ++ r', List.mem_cons_self .., by rw [kidsT_cons, List.append_assoc] at h; simpa [kidsT] using h⟩
 | [], [], _, _, hl, _, _, _ => by simp at hl
 | _ :: _, [], _, _, hl, _, _, _ => by simp at hl
 | c :: a, d :: b, r, r', hl, ha, hb, h => by
  rw [kidsT_cons, kidsT_cons, List.append_assoc, List.append_assoc] at h
  obtain ⟨rfl, h1⟩ := chT_inj (ha c (List.mem_cons_self ..)) (hb d (List.mem_cons_self ..)) h
  obtain ⟨e, t, h2, h3⟩ := kidsT_head a b r r' (by simpa using hl) (fun x hx => ha x (List.mem_cons_of_mem _ hx)) (fun x hx => hb x (List.mem_cons_of_mem _ hx)) h1
  exact ⟨e, t, List.mem_cons_of_mem _ h2, h3⟩
structure RightC (cs : List Chd) : Prop where
 len : 1 ≤ cs.length ∧ cs.length ≤ 16
 ok : ∀ c ∈ cs, ChdOk c
 first : ∀ c, cs[0]? = some c → c.low = []
 rising : Rising Chd.low cs
def textN (cs : List Chd) (us : List Upd) : List UInt8 := UInt8.ofNat cs.length :: (kidsT cs ++ textU us)
structure NodeOk (cs : List Chd) (us : List Upd) : Prop where
 kids : RightC cs
 len : us.length ≤ 64
 ok : ∀ u ∈ us, Okay u
 rising : Rising Upd.key us
theorem textN_prefix {cs cs' : List Chd} {us us' : List Upd} {r : List UInt8} (h : NodeOk cs us) (h' : NodeOk cs' us') (e : textN cs' us' ++ r = textN cs us) : cs' = cs ∧ ∃ t, us = us' ++ t ∧ r = textU t := by
 unfold textN at e
 rw [List.cons_append, List.append_assoc] at e
 injection e with e1 e2
 have l1 := h.kids.len
 have l2 := h'.kids.len
 have hl : cs'.length = cs.length := by
  have := congrArg UInt8.toNat e1
  rwa [ofNat_toNat_lt (by omega), ofNat_toNat_lt (by omega)] at this
 obtain ⟨rfl, h3⟩ := kidsT_inj cs' cs _ _ hl (fun c hc => (h'.kids.ok c hc).is) (fun c hc => (h.kids.ok c hc).is) e2
 exact ⟨rfl, textU_prefix us' us r h'.ok h.ok h3⟩
theorem textN_inj {cs cs' : List Chd} {us us' : List Upd} (h : NodeOk cs us) (h' : NodeOk cs' us') (e : textN cs' us' = textN cs us) : cs' = cs ∧ us' = us := by
 obtain ⟨h1, t, rfl, h3⟩ := textN_prefix (r := []) h h' (by rw [List.append_nil]; exact e)
 refine ⟨h1, ?_⟩
 cases t with
 | nil => simp
 | cons u t =>
  rw [textU_cons] at h3
  exact absurd (List.append_eq_nil_iff.1 h3.symm).1 (bytes_ne (h.ok u (by simp)))
theorem textN_len {cs : List Chd} {us : List Upd} (h : NodeOk cs us) : (textN cs us).length ≤ 8200 := by
 have h1 := kidsT_len cs (fun c hc => (h.kids.ok c hc).is.low)
 have h2 := textU_len60 us h.ok
 have h3 := h.kids.len
 have h4 := h.len
 unfold textN
 rw [List.length_cons, List.length_append]; omega
theorem textN_read {k : Nat} {cs cs' : List Chd} {us' : List Upd} {r : List UInt8} (hk : k < 256) (hl : cs.length = k) (hc : ∀ c ∈ cs, ChdIs c) (h' : NodeOk cs' us') (e : UInt8.ofNat k :: (kidsT cs ++ r) = textN cs' us') : cs' = cs ∧ r = textU us' := by
 unfold textN at e
 injection e with e1 e2
 have l2 := h'.kids.len
 have hll : cs.length = cs'.length := by
  have := congrArg UInt8.toNat e1
  rw [ofNat_toNat_lt hk, ofNat_toNat_lt (by omega)] at this
  omega
 obtain ⟨h1, h2⟩ := kidsT_inj cs cs' _ _ hll hc (fun c hc => (h'.kids.ok c hc).is) e2
 exact ⟨h1.symm, h2⟩
theorem textN_more {k : Nat} {cs cs' : List Chd} {us' : List Upd} {r : List UInt8} (hk : k < 256) (hl : cs.length < k) (hc : ∀ c ∈ cs, ChdIs c) (h' : NodeOk cs' us') (e : UInt8.ofNat k :: (kidsT cs ++ r) = textN cs' us') : ∃ c t, ChdOk c ∧ r = chT c ++ t := by
 unfold textN at e
 injection e with e1 e2
 have l2 := h'.kids.len
 have hll : cs.length < cs'.length := by
  have := congrArg UInt8.toNat e1
  rw [ofNat_toNat_lt hk, ofNat_toNat_lt (by omega)] at this
  omega
 obtain ⟨c, t, h1, h2⟩ := kidsT_head cs cs' _ _ hll hc (fun c hc => (h'.kids.ok c hc).is) e2
 exact ⟨c, t, h'.kids.ok c h1, h2⟩
open Go.RowKit
attribute [local go_sem ↓] Go.wp_at_zero Go.wp_at_succ
theorem cell_one_at (w : World) (g : Nat) (hg : w.heap.size = g) (x : Value) (t : TypeId) : ∀ j u, [x][j]? = some u → (w.alloc (.cells #[x] t)).cell? ((⟨g, 0, none⟩ : Addr).add j) = some u := by
 subst hg
 exact cell_one_new w x t
theorem bld_byte (B b : Nat) (bs : List Value) (c : Int) (w : World) (h : IsB B b bs w) (hlen : bs.length + 1 ≤ 140737488355328) (hBw : B ≤ w.heap.size) :
  Calls Tryz.prog 136 #[.pointer (some ⟨b, 0, none⟩), .int .u8 c] w fun e w' => e = .returned .nilIface ∧ IsB B b (bs ++ [.int .u8 c]) w' ∧ Below B w w' := by
 obtain ⟨i0, hi, hz0, hz1, hz2⟩ := info_parts infoByte
 go_enter Tryz.func136, Tryz.ntmps136
 go_wp2_with fail
 refine (bld_check B b bs _ h).mono ?_
 rintro e w1 ⟨rfl, h1, hb1⟩
 obtain ⟨hB, v, hbk, hown, hne⟩ := h1
 have c0 : w1.cell? ⟨b, 0, none⟩ = some (.pointer (some ⟨b, 0, none⟩)) := by rw [Lib.cell_of_heap hbk]; rfl
 have c1 : w1.cell? ⟨b, 1, none⟩ = some v := by rw [Lib.cell_of_heap hbk]; rfl
 go_wp2_with (at_builtin; refine wpList_append_own _ rfl _ _ 22 rfl B 5 i0 (.int .u8 0) 1 1 Tryz.underlying22 hi hz0 hz1 hz2 rfl (by decide) _ _ _ rfl (hown.alloc _) ⟨w1.heap.size, 0, none⟩ 1 1 [.int .u8 c] rfl rfl ?c1 ?c2 ?c3 ?c4 ?c5 ?_)
 case c1 => exact cell_one_at _ _ rfl _ _
 case c2 => intro u hu; simp at hu; subst hu; rfl
 case c3 => unfold maxLen; omega
 case c4 => omega
 case c5 => have := hb1.size; simp; omega
 intro v' w2 hown' hgrow _
 have hlt : b < w1.heap.size := by
  rcases Nat.lt_or_ge b w1.heap.size with h' | h'
  ·exact h'
  ·simp [Array.getElem?_eq_none h'] at hbk
 have hb2 : w2.heap[b]? = some (.cells #[.pointer (some ⟨b, 0, none⟩), v] 200 (0, 0)) := by
  rw [hgrow.block b (by simp; omega) (fun e => hne e.symm), Lib.alloc_old w1 _ b hlt]
  exact hbk
 have d0 : w2.cell? ⟨b, 0, none⟩ = some (.pointer (some ⟨b, 0, none⟩)) := by rw [Lib.cell_of_heap hb2]; rfl
 have d1 : w2.cell? ⟨b, 1, none⟩ = some v := by rw [Lib.cell_of_heap hb2]; rfl
 have f1 : w2.frozen? ⟨b, 1, none⟩ = false := Lib.frozen_of_heap hb2 1
 obtain ⟨ao, n', cap, rfl⟩ : ∃ ao n' cap, v' = .slice ao n' cap := by
  rcases hown'.2 with ⟨hv, _⟩ | ⟨g, cap, cur, hv, _⟩
  ·exact ⟨_, _, _, hv⟩
  ·exact ⟨_, _, _, hv⟩
 go_wp2_with fail
 go_ret
 refine ⟨rfl, Or.inr ?_, ?_⟩
 ·exact Lib.BuilderAt.put (T := 200) (e := 5) hB hb2 (bs' := bs ++ [.int .u8 c]) (by simpa using hown') (by decide)
 ·exact ((hb1.alloc (by have := hb1.size; omega) _).grown hgrow (by have := hb1.size; simp; omega) (fun k hk => (hown.lt k hk).1)).setCell (p := ⟨b, 1, none⟩) hB _
def setL (w : World) (b : Nat) : Nat → List Value → World
 | _, [] => w
 | o, y :: ys => setL (w.setCell ⟨b, o, none⟩ y) b (o + 1) ys
theorem setL_spec {b : Nat} : ∀ (ys : List Value) (o : Nat) (w : World), (∀ i, i < ys.length → ∃ x, w.cell? ⟨b, o + i, none⟩ = some x) →
  (∀ i v, ys[i]? = some v → (setL w b o ys).cell? ⟨b, o + i, none⟩ = some v) ∧ (∀ b' o', (b' ≠ b ∨ o' < o) → (setL w b o ys).cell? ⟨b', o', none⟩ = w.cell? ⟨b', o', none⟩) ∧ (setL w b o ys).heap.size = w.heap.size ∧ (∀ p, (setL w b o ys).frozen? p = w.frozen? p) ∧ ∀ B w0, Below B w0 w → B ≤ b → Below B w0 (setL w b o ys)
 | [], o, w, _ => ⟨fun i v h => by simp at h, fun _ _ _ => rfl, rfl, fun _ => rfl, fun _ _ h _ => h⟩
 | y :: ys, o, w, h => by
  obtain ⟨h1, h2, h3, h4, h5⟩ := setL_spec (b := b) ys (o + 1) (w.setCell ⟨b, o, none⟩ y) (fun i hi => by
   obtain ⟨x, hx⟩ := h (i + 1) (by simp; omega)
   exact ⟨x, by rw [World.cell?_setCell_other _ _ _ _ (addr_ne (Or.inr (by omega)))]; rw [← hx]; congr 2; omega⟩)
  refine ⟨fun i v hv => ?_, fun b' o' hb => ?_, ?_, fun p => ?_, fun B w0 hB hb => ?_⟩
  ·cases i with
   | zero =>
    obtain ⟨x, hx⟩ := h 0 (by simp)
    simp only [List.getElem?_cons_zero, Option.some.injEq] at hv
    subst hv
    show (setL (w.setCell ⟨b, o, none⟩ y) b (o + 1) ys).cell? ⟨b, o, none⟩ = some y
    rw [h2 b o (Or.inr (by omega))]
    exact World.cell?_setCell_same _ _ _ hx
   | succ i =>
    have := h1 i v (by simpa using hv)
    show (setL (w.setCell ⟨b, o, none⟩ y) b (o + 1) ys).cell? ⟨b, o + (i + 1), none⟩ = some v
    rw [← this]; congr 2; omega
  ·show (setL (w.setCell ⟨b, o, none⟩ y) b (o + 1) ys).cell? ⟨b', o', none⟩ = _
   rw [h2 b' o' (by omega), World.cell?_setCell_other _ _ _ _ (addr_ne (by omega))]
  ·show (setL (w.setCell ⟨b, o, none⟩ y) b (o + 1) ys).heap.size = _
   rw [h3, World.size_setCell]
  ·show (setL (w.setCell ⟨b, o, none⟩ y) b (o + 1) ys).frozen? p = _
   rw [h4, World.frozen?_setCell]
  ·exact h5 B w0 (hB.setCell (p := ⟨b, o, none⟩) hb _) hb
def Placed (a : Int) : Prop := 0 ≤ a ∧ a ≤ 2147483647
instance (a : Int) : Decidable (Placed a) := by unfold Placed; infer_instance
theorem placed_any (a : Int) (w : World) : Calls Tryz.prog 181 #[.int .i64 a] w fun e w' => e = .returned (.bool (decide (Placed a))) ∧ Below w.heap.size w w' := by
 by_cases h1 : 0 ≤ a <;> by_cases h2 : a ≤ 2147483647
 all_goals
  go_enter Tryz.func181, Tryz.ntmps181
  go_wp2_with fail
  go_ret
  exact ⟨by
   first
    | rw [decide_eq_true (show Placed a from ⟨h1, h2⟩)]; rfl
    | rw [decide_eq_false (show ¬ Placed a from fun h => by obtain ⟨q1, q2⟩ := h; omega)]; rfl, Below.refl _ _⟩
theorem ptrWidths_any (w : World) : Calls Tryz.prog 175 #[] w fun e w' => (∃ b, e = .returned (.slice (some ⟨b, 0, none⟩) 3 3) ∧ b < w'.heap.size ∧ ∀ x y z, IntsW w' (some ⟨b, 0, none⟩) [(4, x), (8, y), (4, z)]) ∧ Below w.heap.size w w' := by
 go_enter Tryz.func175, Tryz.ntmps175
 go_wp2_with fail
 go_ret
 exact ⟨⟨w.heap.size, rfl, by simp, fun x y z => intsW_new w #[.int .i64 4, .int .i64 8, .int .i64 4] 3 (0, 0) [(4, x), (8, y), (4, z)] rfl⟩, by go_grown⟩
theorem ptrText_no (a : Int) (g s : Nat) (w : World) (h : ¬ Placed a) :
  Calls Tryz.prog 166 #[.agg #[.int .i64 a, .int .u64 g, .int .u32 s]] w fun e w' => e = .returned (.tuple #[.string (S []), .bool false]) ∧ Below w.heap.size w w' := by
 have HP := Lib.hid (fun w => placed_any a w)
 rw [decide_eq_false h] at HP
 clear h
 go_enter Tryz.func166, Tryz.ntmps166
 go_wp2_with fail
 refine (thread (HP.out _) w.heap.size w (by go_grown) (by go_grown)).mono ?_
 rintro e w1 ⟨rfl, hX1, -, -, -, hz1⟩
 go_wp2_with fail
 go_ret2
 exact ⟨rfl, hX1⟩
theorem ptrText_ok (a g s : Nat) (w : World) (ha : a ≤ 2147483647) (hg : g < 18446744073709551616) (hs : s < 4294967296) :
  Calls Tryz.prog 166 #[.agg #[.int .i64 a, .int .u64 g, .int .u32 s]] w fun e w' => e = .returned (.tuple #[.string (S (ptrL a g s)), .bool true]) ∧ Below w.heap.size w w' := by
 have HP := Lib.hid (fun w => placed_any (a : Int) w)
 rw [decide_eq_true (show Placed (a : Int) from ⟨by omega, by omega⟩)] at HP
 have hwa : IntKind.u64.wrap (a : Int) = (a : Int) := by rw [IntKind.wrap_u64]; omega
 have hws : IntKind.u64.wrap (s : Int) = (s : Int) := by rw [IntKind.wrap_u64]; omega
 have HF := Lib.hid (ptr_fit (a := a) (by omega) hg hs)
 go_enter Tryz.func166, Tryz.ntmps166
 go_wp2_with fail
 refine (thread (HP.out _) w.heap.size w (by go_grown) (by go_grown)).mono ?_
 rintro e w1 ⟨rfl, hX1, hk1, -, hs1, hz1⟩
 have e0 : w1.cell? ⟨w.heap.size, 0, none⟩ = some (.int .i64 a) := (hk1 w.heap.size 0 (by simp)).trans (by simp)
 have e1 : w1.cell? ⟨w.heap.size, 1, none⟩ = some (.int .u64 g) := (hk1 w.heap.size 1 (by simp)).trans (by simp)
 have e2 : w1.cell? ⟨w.heap.size, 2, none⟩ = some (.int .u32 s) := (hk1 w.heap.size 2 (by simp)).trans (by simp)
 have HX1 := Lib.hid hX1
 clear hk1 hX1 hs1
 go_upto_region 3 with (fail)
 go_region_held3 (fun w' => w'.cell? ⟨w.heap.size, 0, none⟩ = some (.int .i64 a) ∧ w'.cell? ⟨w.heap.size, 1, none⟩ = some (.int .u64 g) ∧ w'.cell? ⟨w.heap.size, 2, none⟩ = some (.int .u32 s) ∧ Below w.heap.size w w')
  (with_reducible first | assumption | exact ⟨cell_drew e0, cell_drew e1, cell_drew e2, below_drew' HX1.out⟩ | exact HS2.out | exact ⟨cell_drew (cell_past _ e0), cell_drew (cell_past _ e1), cell_drew (cell_past _ e2), below_drew' (HX1.out.alloc hz1 _)⟩ | (obtain ⟨m0, m1, m2, m3⟩ := ‹_ ∧ _ ∧ _ ∧ Below _ _ _›; exact ⟨cell_past _ m0, cell_past _ m1, cell_past _ m2, m3.alloc m3.size _⟩))
  (first
   | (go_at_call 175; go_must (refine (ptrWidths_any _).mono ?_; rintro e w2 ⟨⟨b, rfl, hb, hI⟩, hB2⟩; obtain ⟨m0, m1, m2, m3⟩ := ‹_ ∧ _ ∧ _ ∧ Below _ _ _›; have HS2 := Lib.hid (And.intro (kept_cell hB2 m0) (And.intro (kept_cell hB2 m1) (And.intro (kept_cell hB2 m2) (m3.trans (hB2.mono m3.size))))); have HI := Lib.hid hI; have HB2 := Lib.hid hB2; clear hB2 m0 m1 m2 m3 hI))
   | (go_at_call 158; (with_reducible show Calls _ _ _ (World.alloc _ _) _); go_must (refine (write_fit (some ⟨b, 0, none⟩) (some ⟨w2.heap.size, 0, none⟩) 3 3 [(4, a), (8, g), (4, s)] _ ((HI.out a g s).kept (show Below w2.heap.size w2 (w2.alloc (.cells #[.int .u64 a, .int .u64 g, .int .u64 s] 25)) by go_grown) (Nat.le_refl _)) (numsW_new w2 _ _ _ [(4, a), (8, g), (4, s)] rfl) (ptr_wide a g s) HF.out (by simp)).mono ?_; rintro e w3 ⟨rfl, hB3⟩; obtain ⟨m0, m1, m2, m3⟩ := HS2.out; have HL3 := Lib.hid ((m3.alloc m3.size (.cells #[.int .u64 a, .int .u64 g, .int .u64 s] 25)).trans (hB3.mono (by have := m3.size; simp; omega))); have n0 := kept_cell hB3 (cell_past (.cells #[.int .u64 a, .int .u64 g, .int .u64 s] 25) m0); have n1 := kept_cell hB3 (cell_past (.cells #[.int .u64 a, .int .u64 g, .int .u64 s] 25) m1); have n2 := kept_cell hB3 (cell_past (.cells #[.int .u64 a, .int .u64 g, .int .u64 s] 25) m2); have HS2 := Lib.hid (And.intro n0 (And.intro n1 (And.intro n2 HL3.out))); clear hB3 m0 m1 m2 m3 n0 n1 n2))
   | (go_at_call 158; go_must (refine (write_fit (some ⟨b, 0, none⟩) (some ⟨w1.heap.size, 0, none⟩) 3 3 [(4, a), (8, g), (4, s)] w2 (HI.out a g s) ((numsW_new w1 #[.int .u64 a, .int .u64 g, .int .u64 s] 25 (0, 0) [(4, a), (8, g), (4, s)] rfl).kept ((below_drew' (Below.refl _ _)).trans HB2.out) (Nat.le_refl _)) (ptr_wide a g s) HF.out (by simp)).mono ?_; rintro e w3 ⟨rfl, hB3⟩; obtain ⟨m0, m1, m2, m3⟩ := HS2.out; have HL3 := Lib.hid (m3.trans (hB3.mono m3.size)); have HS2 := Lib.hid (And.intro (kept_cell hB3 m0) (And.intro (kept_cell hB3 m1) (And.intro (kept_cell hB3 m2) HL3.out))); clear hB3 m0 m1 m2 m3)))
 all_goals
  go_wp2_with fail
  go_ret2
  exact ⟨rfl, HL3.out⟩
theorem numsW_three {w : World} {ao : Option Addr} {a g s : Nat} (h : NumsW w ao [(4, a), (8, g), (4, s)]) : ∃ b o, ao = some ⟨b, o, none⟩ ∧ b < w.heap.size ∧ w.cell? ⟨b, o, none⟩ = some (.int .u64 a) ∧ w.cell? ⟨b, o + 1, none⟩ = some (.int .u64 g) ∧ w.cell? ⟨b, o + 2, none⟩ = some (.int .u64 s) := by
 obtain ⟨b, o, rfl, hb, hc⟩ := h.at (by simp)
 refine ⟨b, o, rfl, hb, ?_, ?_, ?_⟩
 ·have := hc 0 (by simp) 0 _ rfl; simpa using this
 ·have := hc 1 (by simp) 0 _ rfl; simpa using this
 ·have := hc 2 (by simp) 0 _ rfl; simpa using this
theorem parsePtr_ok (a g s : Nat) (rest : List UInt8) (w : World) (ha : a ≤ 2147483647) (hg : g < 18446744073709551616) (hs : s < 4294967296) (hl : rest.length ≤ 1000000) :
  Calls Tryz.prog 153 #[.string (S (ptrL a g s ++ rest))] w fun e w' => e = .returned (.tuple #[.agg #[.int .i64 a, .int .u64 g, .int .u32 s], .string (S rest), .bool true]) ∧ Below w.heap.size w w' := by
 have hwa : IntKind.i64.wrap (a : Int) = (a : Int) := IntWalk.i64_in _ (by omega)
 have hws : IntKind.u32.wrap (s : Int) = (s : Int) := by rw [IntKind.wrap_u32]; omega
 have HF := Lib.hid (ptr_fit (a := a) (by omega) hg hs)
 have ha' : ¬ (2147483647 : Int) < (a : Int) := by omega
 have HPL := Lib.hid (show ptrL a g s ++ rest = wtext [(4, a), (8, g), (4, s)] ++ rest from rfl)
 generalize ptrL a g s ++ rest = s0 at *
 go_enter Tryz.func153, Tryz.ntmps153
 go_upto_region 1 with (fail)
 have hX : Below w.heap.size w (w.alloc (.cells #[.int .i64 0, .int .u64 0, .int .u32 0] 54)) := by go_grown
 have HC := Lib.hid (show (w.alloc (.cells #[.int .i64 0, .int .u64 0, .int .u32 0] 54)).cell? ⟨w.heap.size, 0, none⟩ = some (.int .i64 0) ∧ (w.alloc (.cells #[.int .i64 0, .int .u64 0, .int .u32 0] 54)).cell? ⟨w.heap.size, 1, none⟩ = some (.int .u64 0) ∧ (w.alloc (.cells #[.int .i64 0, .int .u64 0, .int .u32 0] 54)).cell? ⟨w.heap.size, 2, none⟩ = some (.int .u32 0) by refine ⟨?_, ?_, ?_⟩ <;> (rw [World.cell?_alloc_at _ _ _ _ rfl]; rfl))
 have HG := Lib.hid (show ∀ o, (w.alloc (.cells #[.int .i64 0, .int .u64 0, .int .u32 0] 54)).frozen? ⟨w.heap.size, o, none⟩ = false from fun o => World.frozen?_alloc_at _ _ _ _ rfl)
 obtain ⟨W, hW⟩ : ∃ W, W = w.alloc (.cells #[.int .i64 0, .int .u64 0, .int .u32 0] 54) := ⟨_, rfl⟩
 have hWz : W.heap.size = w.heap.size + 1 := by rw [hW]; simp
 rw [← hW] at hX HC HG ⊢
 clear hW
 go_wp2_with fail
 refine (ptrWidths_any W).mono ?_
 rintro e w1 ⟨⟨b, rfl, hb, hI⟩, hB1⟩
 go_wp2_with fail
 rw [HPL.out]
 refine (read_ok (some ⟨b, 0, none⟩) 3 [(4, a), (8, g), (4, s)] rest w1 (hI a g s) (ptr_wide a g s) HF.out (by simp) hl).mono ?_
 rintro e w2 ⟨⟨ao, c, rfl, hn⟩, hB2⟩
 obtain ⟨nb, no, rfl, hnb, n0, n1, n2⟩ := numsW_three hn
 have hBW := hB1.trans (hB2.mono hB1.size)
 have HL := Lib.hid (hX.trans (hBW.mono hX.size))
 obtain ⟨k0, k1, k2⟩ := HC.out
 have z0 := kept_cell hBW k0
 have z1 := kept_cell hBW k1
 have z2 := kept_cell hBW k2
 have g0 := ((bcell hBW).2 w.heap.size 0 (by omega)).trans (HG.out 0)
 have g1 := ((bcell hBW).2 w.heap.size 1 (by omega)).trans (HG.out 1)
 have g2 := ((bcell hBW).2 w.heap.size 2 (by omega)).trans (HG.out 2)
 clear hI hB1 hB2 hBW hX HC HG hn k0 k1 k2 hWz hb HF
 rw [← HPL.out]
 go_upto_region 4 with (fail)
 go_region
 all_goals
  go_wp2_with fail
  obtain ⟨s1, -, -, -, s5⟩ := setL_spec (b := w.heap.size) [.int .i64 a, .int .u64 g, .int .u32 s] 0 w2 (fun i hi => by
   rcases i with _ | _ | _ | i
   ·exact ⟨_, z0⟩
   ·exact ⟨_, z1⟩
   ·exact ⟨_, z2⟩
   ·simp at hi; omega)
  have hZ : setL w2 w.heap.size 0 [.int .i64 a, .int .u64 g, .int .u32 s] = ((w2.setCell ⟨w.heap.size, 0, none⟩ (.int .i64 a)).setCell ⟨w.heap.size, 1, none⟩ (.int .u64 g)).setCell ⟨w.heap.size, 2, none⟩ (.int .u32 s) := rfl
  have t0 := s1 0 _ rfl
  have t1 := s1 1 _ rfl
  have t2 := s1 2 _ rfl
  have t5 := s5 _ _ HL.out (Nat.le_refl _)
  simp only [Nat.zero_add] at t0 t1 t2
  rw [← hZ]
  generalize setL w2 w.heap.size 0 [.int .i64 a, .int .u64 g, .int .u32 s] = Z at *
  exact bodyPost_ret (v := .tuple #[.agg #[.int .i64 a, .int .u64 g, .int .u32 s], .string (S rest), .bool true]) (by simp [results, Tryz.results153, go_sem, t0, t1, t2]) rfl ⟨rfl, below_drew' t5⟩
theorem parsePtr_far (a g s : Nat) (rest : List UInt8) (w : World) (ha : ¬ a ≤ 2147483647) (ha2 : a < 4294967296) (hg : g < 18446744073709551616) (hs : s < 4294967296) (hl : rest.length ≤ 1000000) :
  Calls Tryz.prog 153 #[.string (S (ptrL a g s ++ rest))] w fun e w' => e = .returned (.tuple #[.agg #[.int .i64 0, .int .u64 0, .int .u32 0], .string (S []), .bool false]) ∧ Below w.heap.size w w' := by
 have HF := Lib.hid (ptr_fit (a := a) ha2 hg hs)
 have ha' : (2147483647 : Int) < (a : Int) := by omega
 have HPL := Lib.hid (show ptrL a g s ++ rest = wtext [(4, a), (8, g), (4, s)] ++ rest from rfl)
 generalize ptrL a g s ++ rest = s0 at *
 go_enter Tryz.func153, Tryz.ntmps153
 go_upto_region 1 with (fail)
 have hX : Below w.heap.size w (w.alloc (.cells #[.int .i64 0, .int .u64 0, .int .u32 0] 54)) := by go_grown
 have HC := Lib.hid (show (w.alloc (.cells #[.int .i64 0, .int .u64 0, .int .u32 0] 54)).cell? ⟨w.heap.size, 0, none⟩ = some (.int .i64 0) ∧ (w.alloc (.cells #[.int .i64 0, .int .u64 0, .int .u32 0] 54)).cell? ⟨w.heap.size, 1, none⟩ = some (.int .u64 0) ∧ (w.alloc (.cells #[.int .i64 0, .int .u64 0, .int .u32 0] 54)).cell? ⟨w.heap.size, 2, none⟩ = some (.int .u32 0) by refine ⟨?_, ?_, ?_⟩ <;> (rw [World.cell?_alloc_at _ _ _ _ rfl]; rfl))
 have HG := Lib.hid (show ∀ o, (w.alloc (.cells #[.int .i64 0, .int .u64 0, .int .u32 0] 54)).frozen? ⟨w.heap.size, o, none⟩ = false from fun o => World.frozen?_alloc_at _ _ _ _ rfl)
 obtain ⟨W, hW⟩ : ∃ W, W = w.alloc (.cells #[.int .i64 0, .int .u64 0, .int .u32 0] 54) := ⟨_, rfl⟩
 have hWz : W.heap.size = w.heap.size + 1 := by rw [hW]; simp
 rw [← hW] at hX HC HG ⊢
 clear hW
 go_wp2_with fail
 refine (ptrWidths_any W).mono ?_
 rintro e w1 ⟨⟨b, rfl, hb, hI⟩, hB1⟩
 go_wp2_with fail
 rw [HPL.out]
 refine (read_ok (some ⟨b, 0, none⟩) 3 [(4, a), (8, g), (4, s)] rest w1 (hI a g s) (ptr_wide a g s) HF.out (by simp) hl).mono ?_
 rintro e w2 ⟨⟨ao, c, rfl, hn⟩, hB2⟩
 obtain ⟨nb, no, rfl, hnb, n0, n1, n2⟩ := numsW_three hn
 have hBW := hB1.trans (hB2.mono hB1.size)
 have HL := Lib.hid (hX.trans (hBW.mono hX.size))
 obtain ⟨k0, k1, k2⟩ := HC.out
 have z0 := kept_cell hBW k0
 have z1 := kept_cell hBW k1
 have z2 := kept_cell hBW k2
 have g0 := ((bcell hBW).2 w.heap.size 0 (by omega)).trans (HG.out 0)
 have g1 := ((bcell hBW).2 w.heap.size 1 (by omega)).trans (HG.out 1)
 have g2 := ((bcell hBW).2 w.heap.size 2 (by omega)).trans (HG.out 2)
 clear hI hB1 hB2 hBW hX HC HG hn k0 k1 k2 hWz hb HF
 rw [← HPL.out]
 go_wp2_with fail
 obtain ⟨s1, -, -, -, s5⟩ := setL_spec (b := w.heap.size) [.int .i64 0, .int .u64 0, .int .u32 0] 0 w2 (fun i hi => by
  rcases i with _ | _ | _ | i
  ·exact ⟨_, z0⟩
  ·exact ⟨_, z1⟩
  ·exact ⟨_, z2⟩
  ·simp at hi; omega)
 have hZ : setL w2 w.heap.size 0 [.int .i64 0, .int .u64 0, .int .u32 0] = ((w2.setCell ⟨w.heap.size, 0, none⟩ (.int .i64 0)).setCell ⟨w.heap.size, 1, none⟩ (.int .u64 0)).setCell ⟨w.heap.size, 2, none⟩ (.int .u32 0) := rfl
 have t0 := s1 0 _ rfl
 have t1 := s1 1 _ rfl
 have t2 := s1 2 _ rfl
 have t5 := s5 _ _ HL.out (Nat.le_refl _)
 simp only [Nat.zero_add] at t0 t1 t2
 rw [← hZ]
 generalize setL w2 w.heap.size 0 [.int .i64 0, .int .u64 0, .int .u32 0] = Z at *
 exact bodyPost_ret (v := .tuple #[.agg #[.int .i64 0, .int .u64 0, .int .u32 0], .string (S []), .bool false]) (by simp [results, Tryz.results153, go_sem, t0, t1, t2]; rfl) rfl ⟨rfl, t5⟩
theorem parsePtr_short (s0 : List UInt8) (w : World) (hs : s0.length < 16) :
  Calls Tryz.prog 153 #[.string (S s0)] w fun e w' => e = .returned (.tuple #[.agg #[.int .i64 0, .int .u64 0, .int .u32 0], .string (S []), .bool false]) ∧ Below w.heap.size w w' := by
 go_enter Tryz.func153, Tryz.ntmps153
 go_upto_region 1 with (fail)
 have hX : Below w.heap.size w (w.alloc (.cells #[.int .i64 0, .int .u64 0, .int .u32 0] 54)) := by go_grown
 have HC := Lib.hid (show (w.alloc (.cells #[.int .i64 0, .int .u64 0, .int .u32 0] 54)).cell? ⟨w.heap.size, 0, none⟩ = some (.int .i64 0) ∧ (w.alloc (.cells #[.int .i64 0, .int .u64 0, .int .u32 0] 54)).cell? ⟨w.heap.size, 1, none⟩ = some (.int .u64 0) ∧ (w.alloc (.cells #[.int .i64 0, .int .u64 0, .int .u32 0] 54)).cell? ⟨w.heap.size, 2, none⟩ = some (.int .u32 0) by refine ⟨?_, ?_, ?_⟩ <;> (rw [World.cell?_alloc_at _ _ _ _ rfl]; rfl))
 have HG := Lib.hid (show ∀ o, (w.alloc (.cells #[.int .i64 0, .int .u64 0, .int .u32 0] 54)).frozen? ⟨w.heap.size, o, none⟩ = false from fun o => World.frozen?_alloc_at _ _ _ _ rfl)
 obtain ⟨W, hW⟩ : ∃ W, W = w.alloc (.cells #[.int .i64 0, .int .u64 0, .int .u32 0] 54) := ⟨_, rfl⟩
 have hWz : W.heap.size = w.heap.size + 1 := by rw [hW]; simp
 rw [← hW] at hX HC HG ⊢
 clear hW
 go_wp2_with fail
 refine (ptrWidths_any W).mono ?_
 rintro e w1 ⟨⟨b, rfl, hb, hI⟩, hB1⟩
 go_wp2_with fail
 refine (read_short (some ⟨b, 0, none⟩) 3 [(4, 0), (8, 0), (4, 0)] s0 w1 (hI 0 0 0) (ptr_wide 0 0 0) (by simp) (by simpa [sumW] using hs)).mono ?_
 rintro e w2 ⟨rfl, hw2⟩
 obtain rfl : w2 = w1 := hw2.symm
 have hBW := hB1
 have HL := Lib.hid (hX.trans (hBW.mono hX.size))
 obtain ⟨k0, k1, k2⟩ := HC.out
 have z0 := kept_cell hBW k0
 have z1 := kept_cell hBW k1
 have z2 := kept_cell hBW k2
 have g0 := ((bcell hBW).2 w.heap.size 0 (by omega)).trans (HG.out 0)
 have g1 := ((bcell hBW).2 w.heap.size 1 (by omega)).trans (HG.out 1)
 have g2 := ((bcell hBW).2 w.heap.size 2 (by omega)).trans (HG.out 2)
 clear hI hB1 hBW hX HC HG k0 k1 k2 hWz hb
 go_wp2_with fail
 obtain ⟨s1, -, -, -, s5⟩ := setL_spec (b := w.heap.size) [.int .i64 0, .int .u64 0, .int .u32 0] 0 w2 (fun i hi => by
  rcases i with _ | _ | _ | i
  ·exact ⟨_, z0⟩
  ·exact ⟨_, z1⟩
  ·exact ⟨_, z2⟩
  ·simp at hi; omega)
 have hZ : setL w2 w.heap.size 0 [.int .i64 0, .int .u64 0, .int .u32 0] = ((w2.setCell ⟨w.heap.size, 0, none⟩ (.int .i64 0)).setCell ⟨w.heap.size, 1, none⟩ (.int .u64 0)).setCell ⟨w.heap.size, 2, none⟩ (.int .u32 0) := rfl
 have t0 := s1 0 _ rfl
 have t1 := s1 1 _ rfl
 have t2 := s1 2 _ rfl
 have t5 := s5 _ _ HL.out (Nat.le_refl _)
 simp only [Nat.zero_add] at t0 t1 t2
 rw [← hZ]
 generalize setL w2 w.heap.size 0 [.int .i64 0, .int .u64 0, .int .u32 0] = Z at *
 exact bodyPost_ret (v := .tuple #[.agg #[.int .i64 0, .int .u64 0, .int .u32 0], .string (S []), .bool false]) (by simp [results, Tryz.results153, go_sem, t0, t1, t2]; rfl) rfl ⟨rfl, t5⟩
theorem as_ptr (s0 : List UInt8) (h : 16 ≤ s0.length) : ∃ a g s rest, a < 4294967296 ∧ g < 18446744073709551616 ∧ s < 4294967296 ∧ s0 = ptrL a g s ++ rest := by
 obtain ⟨ps, rest, h1, h2, h3⟩ := as_nums [4, 8, 4] s0 (by simpa using h)
 match ps, h1 with
 | [(_, a), (_, g), (_, s)], h1 =>
  simp only [List.map_cons, List.map_nil, List.cons.injEq, and_true] at h1
  obtain ⟨rfl, rfl, rfl⟩ := h1
  exact ⟨a, g, s, rest, h2 (4, a) (by simp), h2 (8, g) (by simp), h2 (4, s) (by simp), h3⟩
theorem parsePtr_any (s0 : List UInt8) (w : World) (hl : s0.length ≤ 1000000) :
  Calls Tryz.prog 153 #[.string (S s0)] w fun e w' => ((∃ a g s rest, a ≤ 2147483647 ∧ g < 18446744073709551616 ∧ s < 4294967296 ∧ s0 = ptrL a g s ++ rest ∧ e = .returned (.tuple #[.agg #[.int .i64 (a : Nat), .int .u64 (g : Nat), .int .u32 (s : Nat)], .string (S rest), .bool true])) ∨ ((∀ a g s rest, a ≤ 2147483647 → g < 18446744073709551616 → s < 4294967296 → s0 ≠ ptrL a g s ++ rest) ∧ e = .returned (.tuple #[.agg #[.int .i64 0, .int .u64 0, .int .u32 0], .string (S []), .bool false]))) ∧ Below w.heap.size w w' := by
 by_cases h : 16 ≤ s0.length
 ·obtain ⟨a, g, s, rest, ha, hg, hs, rfl⟩ := as_ptr s0 h
  have hr : rest.length ≤ 1000000 := by rw [List.length_append] at hl; omega
  by_cases hp : a ≤ 2147483647
  ·exact (parsePtr_ok a g s rest w hp hg hs hr).mono fun e w' ⟨he, hb⟩ => ⟨Or.inl ⟨a, g, s, rest, hp, hg, hs, rfl, he⟩, hb⟩
  ·refine (parsePtr_far a g s rest w hp ha hg hs hr).mono fun e w' ⟨he, hb⟩ => ⟨Or.inr ⟨fun a' g' s' rest' ha' hg' hs' e' => ?_, he⟩, hb⟩
   obtain ⟨h1, -⟩ := List.append_inj e' (by rw [ptrL_len, ptrL_len])
   obtain ⟨h2, -⟩ := ptrL_inj ha hg hs (by omega) hg' hs' h1
   omega
 ·refine (parsePtr_short s0 w (by omega)).mono fun e w' ⟨he, hb⟩ => ⟨Or.inr ⟨fun a' g' s' rest' ha' hg' hs' e' => ?_, he⟩, hb⟩
  rw [e', List.length_append, ptrL_len] at h
  omega
open Go.RowKit
attribute [local go_sem ↓] Go.wp_at_zero Go.wp_at_succ
theorem lendJoin_long (s : List UInt8) (hs : ¬ s.length ≤ 255) (w : World) :
  Calls Tryz.prog 104 #[.string (S s)] w fun e w' => e = .returned (.tuple #[.string (S []), .bool false]) ∧ Below w.heap.size w w' := by
 have h1 : (255 : Int) < (s.length : Int) := by omega
 go_enter Tryz.func104, Tryz.ntmps104
 go_wp2_with fail
 go_ret2
 exact ⟨rfl, by go_grown⟩
theorem chText_any (c : Chd) (w : World) (hg : c.gen < 18446744073709551616) (hs : c.sum < 4294967296) (hl : c.low.length ≤ 1000000) :
  Calls Tryz.prog 137 #[.agg #[.string (S c.low), .int .i64 c.addr, .int .u64 c.gen, .int .u32 c.sum]] w fun e w' => (∃ s b, e = .returned (.tuple #[.string (S s), .bool b]) ∧ (b = true ↔ c.low.length ≤ 255 ∧ Placed c.addr) ∧ (b = true → s = chT c)) ∧ Below w.heap.size w w' := by
 obtain ⟨low, addr, gen, sum⟩ := c
 dsimp only at hg hs hl ⊢
 have hT : chT ⟨low, addr, gen, sum⟩ = joinT low ++ ptrL addr.toNat gen sum := rfl
 rw [hT]
 clear hT
 by_cases hp : Placed addr
 case' pos =>
  obtain ⟨a, rfl⟩ := Int.eq_ofNat_of_zero_le hp.1
  have ha : a ≤ 2147483647 := by have := hp.2; omega
  have HP := Lib.hid (fun w => ptrText_ok a gen sum w ha hg hs)
  obtain ⟨P, hP⟩ : ∃ P, P = ptrL a gen sum := ⟨_, rfl⟩
  have hPl : P.length = 16 := by rw [hP, ptrL_len]
  obtain ⟨bp, hbp⟩ : ∃ bp, bp = true := ⟨_, rfl⟩
  have hbi : bp = true ↔ Placed (a : Int) := by simp [hbp, hp]
  rw [show ((a : Nat) : Int).toNat = a by simp, ← hP]
  rw [← hP, ← hbp] at HP
  have HPP := Lib.hid (show bp = true → P = P from fun _ => rfl)
  obtain ⟨A, hA⟩ : ∃ A : Int, A = (a : Int) := ⟨_, rfl⟩
  obtain ⟨P0, hP0⟩ : ∃ P0, P0 = P := ⟨_, rfl⟩
  rw [show (bp = true → P = P) = (bp = true → P0 = P) by rw [hP0]] at HPP
  rw [← hP0]
  clear hbp ha hp hP
  rw [← hA] at hbi HP ⊢
  clear hA
 case' neg =>
  have HP := Lib.hid (fun w => ptrText_no addr gen sum w hp)
  obtain ⟨P, hP⟩ : ∃ P : List UInt8, P = [] := ⟨_, rfl⟩
  have hPl : P.length ≤ 16 := by rw [hP]; simp
  obtain ⟨bp, hbp⟩ : ∃ bp, bp = false := ⟨_, rfl⟩
  have hbi : bp = true ↔ Placed addr := by simp [hbp, hp]
  rw [← hP, ← hbp] at HP
  have HPP := Lib.hid (show bp = true → ptrL addr.toNat gen sum = P from fun h => by rw [hbp] at h; cases h)
  obtain ⟨A, hA⟩ : ∃ A : Int, A = addr := ⟨_, rfl⟩
  obtain ⟨P0, hP0⟩ : ∃ P0, P0 = ptrL addr.toNat gen sum := ⟨_, rfl⟩
  rw [← hP0] at HPP ⊢
  clear hbp hp hP hP0
  rw [← hA] at hbi HP ⊢
  clear hA
 all_goals
  have HBI := Lib.hid hbi
  clear hbi
  by_cases hlo : low.length ≤ 255
  case' pos =>
   have HJ := Lib.hid (fun w => lendJoin_any low hlo w)
   have hJl : (joinT low).length ≤ 256 := by rw [joinT_len]; omega
   generalize joinT low = J at *
   obtain ⟨bl, hbl⟩ : ∃ bl, bl = true := ⟨_, rfl⟩
   rw [← hbl] at HJ
   have HB := Lib.hid (show bl = true ↔ low.length ≤ 255 from by simp [hbl, hlo])
   have HJJ := Lib.hid (show bl = true → J = J from fun _ => rfl)
   obtain ⟨J0, hJ0⟩ : ∃ J0, J0 = J := ⟨_, rfl⟩
   rw [show (bl = true → J = J) = (bl = true → J0 = J) by rw [hJ0]] at HJJ
   rw [show J ++ P0 = J0 ++ P0 by rw [hJ0]]
   clear hbl hlo hJ0
  case' neg =>
   have HJ := Lib.hid (fun w => lendJoin_long low hlo w)
   obtain ⟨J, hJ⟩ : ∃ J : List UInt8, J = [] := ⟨_, rfl⟩
   have hJl : J.length ≤ 256 := by rw [hJ]; simp
   rw [← hJ] at HJ
   generalize joinT low = J0 at *
   obtain ⟨bl, hbl⟩ : ∃ bl, bl = false := ⟨_, rfl⟩
   rw [← hbl] at HJ
   have HB := Lib.hid (show bl = true ↔ low.length ≤ 255 from by simp [hbl, hlo])
   have HJJ := Lib.hid (show bl = true → J0 = J from fun h => by rw [hbl] at h; cases h)
   clear hbl hlo hJ
  all_goals
   go_enter Tryz.func137, Tryz.ntmps137
   go_wp2_with fail
   refine (thread (HJ.out _) w.heap.size w (by go_grown) (by go_grown)).mono ?_
   rintro e w1 ⟨rfl, hX1, hk1, -, -, hz1⟩
   have e0 : w1.cell? ⟨w.heap.size, 0, none⟩ = some (.string (S low)) := (hk1 w.heap.size 0 (by simp)).trans (by simp)
   have e1 : w1.cell? ⟨w.heap.size, 1, none⟩ = some (.int .i64 A) := (hk1 w.heap.size 1 (by simp)).trans (by simp)
   have e2 : w1.cell? ⟨w.heap.size, 2, none⟩ = some (.int .u64 gen) := (hk1 w.heap.size 2 (by simp)).trans (by simp)
   have e3 : w1.cell? ⟨w.heap.size, 3, none⟩ = some (.int .u32 sum) := (hk1 w.heap.size 3 (by simp)).trans (by simp)
   clear hk1
   go_wp2_with fail
   refine (thread (HP.out _) w.heap.size w hX1 hz1).mono ?_
   rintro e w2 ⟨rfl, hX2, -, -, -, hz2⟩
   cases bl
   all_goals
    go_wp2_with fail
    go_ret2
    refine ⟨⟨J ++ P, _, rfl, ?_, ?_⟩, hX2⟩
    ·rw [← HB.out, ← HBI.out]; simp
    ·intro h
     first
      | (cases h; done)
      | (rw [HJJ.out (by trivial), HPP.out h])
structure TellsB (e : Ending) (P : Prop) : Prop where
 ex : ∃ r : Bool, e = .returned (.bool r) ∧ (r = true ↔ P)
theorem TellsB.yes {P : Prop} (h : P) : TellsB (.returned (.bool true)) P := ⟨true, rfl, by simpa using h⟩
theorem TellsB.no {P : Prop} (h : ¬ P) : TellsB (.returned (.bool false)) P := ⟨false, rfl, by simpa using h⟩
structure KidFine (cs : List Chd) (i : Nat) (h : i < cs.length) : Prop where
 ok : ChdOk cs[i]
 first : i = 0 ↔ cs[i].low = []
 next : ∀ h0 : 0 < i, bl (cs[i - 1]'(by omega)).low cs[i].low = true
theorem rising_adj {α : Type} {key : α → List UInt8} : ∀ (l : List α), (∀ i (h : i + 1 < l.length), bl (key (l[i]'(by omega))) (key l[i + 1]) = true) → Rising key l
 | [], _ => List.Pairwise.nil
 | [a], _ => by unfold Rising; simp
 | a :: b :: l, h => by
  have h1 := rising_adj (key := key) (b :: l) (fun i hi => h (i + 1) (by simpa using hi))
  have h0 := h 0 (by simp)
  unfold Rising at h1 ⊢
  refine List.Pairwise.cons (fun c hc => ?_) h1
  rcases List.mem_cons.1 hc with rfl | hc
  ·exact h0
  ·exact bl_trans h0 ((List.pairwise_cons.1 h1).1 c hc)
theorem rightC_of {cs : List Chd} (hl : 1 ≤ cs.length ∧ cs.length ≤ 16) (h : ∀ i (hi : i < cs.length), KidFine cs i hi) : RightC cs := by
 refine ⟨hl, fun c hc => ?_, fun c hc => ?_, rising_adj cs (fun i hi => ?_)⟩
 ·obtain ⟨i, hi, rfl⟩ := List.getElem_of_mem hc
  exact (h i hi).ok
 ·rw [List.getElem?_eq_getElem (by omega)] at hc
  injection hc with hc
  rw [← hc]
  exact (h 0 (by omega)).first.1 rfl
 ·exact (h (i + 1) hi).next (by omega)
theorem RightC.fine {cs : List Chd} (h : RightC cs) (i : Nat) (hi : i < cs.length) : KidFine cs i hi := by
 have hr := h.rising
 unfold Rising at hr
 have h0 : cs[0]'(by omega) = cs[0]'(by omega) := rfl
 have hf := h.first (cs[0]'(by omega)) (List.getElem?_eq_getElem (by omega))
 refine ⟨h.ok _ (List.getElem_mem hi), ⟨fun e => by subst e; exact hf, fun e => ?_⟩, fun h0 => List.pairwise_iff_getElem.1 hr (i - 1) i (by omega) hi (by omega)⟩
 rcases Nat.eq_zero_or_pos i with h1 | h1
 ·exact h1
 ·have := List.pairwise_iff_getElem.1 hr 0 i (by omega) hi h1
  rw [e, bl_nil] at this
  exact absurd this (by simp)
theorem take_fine {cs : List Chd} {j : Nat} {hj : j < cs.length} (h : ∀ i (hi : i < cs.length), i < j → KidFine cs i hi) (hk : KidFine cs j hj) : ∀ i (hi : i < cs.length), i < j + 1 → KidFine cs i hi := fun i hi hlt => by
 rcases Nat.lt_or_ge i j with h1 | h1
 ·exact h i hi h1
 ·obtain rfl : i = j := by omega
  exact hk
theorem children_any (v : Value) (cs : List Chd) (us : List Upd) (w : World) (h : NodeAt w v cs us) (hl : cs.length ≤ 1000) (hw : ∀ c ∈ cs, c.Wf) (hlo : ∀ c ∈ cs, c.low.length ≤ 1000000) :
  Calls Tryz.prog 156 #[v] w fun e w' => TellsB e (RightC cs) ∧ Below w.heap.size w w' := by
 obtain ⟨a, b, x, y, rfl, h1, -⟩ := h
 have hs := h1.at
 have HW := Lib.hid hw
 have HLO := Lib.hid hlo
 clear h1 hw hlo
 go_enter Tryz.func156, Tryz.ntmps156
 go_upto_region 1 with (fail)
 have hX : Below w.heap.size w (w.alloc (.cells #[.slice a cs.length x, .slice b us.length y] 105)) := by go_grown
 have HP := Lib.hid (show (w.alloc (.cells #[.slice a cs.length x, .slice b us.length y] 105)).cell? ⟨w.heap.size, 0, none⟩ = some (.slice a cs.length x) by rw [World.cell?_alloc_at _ _ _ _ rfl]; rfl)
 obtain ⟨W, hW⟩ : ∃ W, W = w.alloc (.cells #[.slice a cs.length x, .slice b us.length y] 105) := ⟨_, rfl⟩
 have hWz : W.heap.size = w.heap.size + 1 := by rw [hW]; simp
 rw [← hW] at hX HP ⊢
 clear hW
 have HX := Lib.hid hX
 have hp := HP.out
 clear hX
 go_wp2_with fail
 go_loopw [10] (fun i wr => ∃ j : Nat, i = .int .i64 j ∧ j ≤ cs.length ∧ Hid (∀ i (hi : i < cs.length), i < j → KidFine cs i hi) ∧ Hid (Below W.heap.size W wr)) (fun i _ => cs.length - (intOf i).toNat)
 case atStart => exact ⟨0, rfl, Nat.zero_le _, Lib.hid (fun i _ hi => absurd hi (by omega)), Lib.hid (Below.refl _ _)⟩
 case round =>
  obtain ⟨j, rfl, hj, HF, HB⟩ := hrel
  have hj0 : (0 : Int) ≤ (j : Int) := Int.natCast_nonneg _
  have hp1 := kept_cell HB.out hp
  by_cases hjl : j < cs.length
  ·have hj1 : (j : Int) < (cs.length : Int) := by omega
   obtain ⟨b0, off, rfl, hb, t0, t1, t2, t3⟩ := hs.cells4C j hjl
   have HBW := Lib.hid (HX.out.trans (HB.out.mono (by omega)))
   have q0 := (cell_below HBW.out hb _).trans t0
   have q1 := (cell_below HBW.out hb _).trans t1
   have q2 := (cell_below HBW.out hb _).trans t2
   have q3 := (cell_below HBW.out hb _).trans t3
   have hwf := HW.out _ (List.getElem_mem hjl)
   have hll := HLO.out _ (List.getElem_mem hjl)
   have HT := Lib.hid (fun w => chText_any cs[j] w hwf.gen hwf.sum hll)
   clear t0 t1 t2 t3
   obtain ⟨c, hc⟩ : ∃ c, c = cs[j] := ⟨_, rfl⟩
   rw [← hc] at q0 q1 q2 q3 hwf hll HT
   have HC := Lib.hid hc
   clear hc
   go_upto_region 4 with (fail)
   have hX4 : Below wr.heap.size wr (wr.alloc (.cells #[.string (S c.low), .int .i64 c.addr, .int .u64 c.gen, .int .u32 c.sum] 179)) := by go_grown
   have HK := Lib.hid (show (wr.alloc (.cells #[.string (S c.low), .int .i64 c.addr, .int .u64 c.gen, .int .u32 c.sum] 179)).cell? ⟨wr.heap.size, 0, none⟩ = some (.string (S c.low)) ∧ (wr.alloc (.cells #[.string (S c.low), .int .i64 c.addr, .int .u64 c.gen, .int .u32 c.sum] 179)).cell? ⟨wr.heap.size, 1, none⟩ = some (.int .i64 c.addr) ∧ (wr.alloc (.cells #[.string (S c.low), .int .i64 c.addr, .int .u64 c.gen, .int .u32 c.sum] 179)).cell? ⟨wr.heap.size, 2, none⟩ = some (.int .u64 c.gen) ∧ (wr.alloc (.cells #[.string (S c.low), .int .i64 c.addr, .int .u64 c.gen, .int .u32 c.sum] 179)).cell? ⟨wr.heap.size, 3, none⟩ = some (.int .u32 c.sum) by refine ⟨?_, ?_, ?_, ?_⟩ <;> (rw [World.cell?_alloc_at _ _ _ _ rfl]; rfl))
   obtain ⟨w1, hw1⟩ : ∃ w1, w1 = wr.alloc (.cells #[.string (S c.low), .int .i64 c.addr, .int .u64 c.gen, .int .u32 c.sum] 179) := ⟨_, rfl⟩
   rw [← hw1] at hX4 HK ⊢
   have HB4 := Lib.hid (HB.out.trans (hX4.mono HB.out.size))
   clear hw1 hX4 q0 q1 q2 q3 HBW HB hp1
   obtain ⟨k0, k1, k2, k3⟩ := HK.out
   go_wp2_with fail
   refine (HT.out w1).mono ?_
   rintro e w2 ⟨⟨s, ok, rfl, hok, -⟩, hB2⟩
   have d0 := kept_cell hB2 k0
   have HB2 := Lib.hid (HB4.out.trans (hB2.mono HB4.out.size))
   have dp := kept_cell HB2.out hp
   have HBW := Lib.hid (HX.out.trans (HB2.out.mono (by omega)))
   have HOK := Lib.hid hok
   clear hok hB2 HB4 k0 k1 k2 k3 HK HT
   have hdj : j = 0 ∨ 0 < j := by omega
   cases ok with
   | false =>
    have HN := Lib.hid (show ¬ RightC cs from fun h => by
     have hf := h.fine j hjl
     have h1 := hf.ok.is.low
     have h2 := hf.ok.addr
     rw [← HC.out] at h1 h2
     exact absurd (HOK.out.2 ⟨h1, h2⟩) (by simp))
    go_wp2_with fail
    go_big_region
    go_wp2_with fail
    exact bodyPost_ret (v := .bool false) (by simp [results, Tryz.results156, go_sem]) rfl ⟨.no HN.out, below_drew' HBW.out⟩
   | true =>
    obtain ⟨hl255, hpl⟩ := HOK.out.1 rfl
    by_cases h16 : c.low.length ≤ 16
    ·have h16' : ¬ (16 : Int) < (c.low.length : Int) := by omega
     have hd16 : decide ((16 : Int) < (c.low.length : Int)) = false := by simpa using h16'
     have HCO := Lib.hid (show ChdOk c from ⟨h16, hpl, hwf.gen, hwf.sum⟩)
     rcases hdj with rfl | hj0'
     ·cases he : c.low.isEmpty with
      | true =>
       have HK := Lib.hid (take_fine (hj := hjl) HF.out ⟨by rw [← HC.out]; exact HCO.out, ⟨fun _ => by rw [← HC.out]; simpa using he, fun _ => rfl⟩, fun h0 => absurd h0 (by omega)⟩)
       go_wp2_with fail
       go_big_region
       go_wp2_with fail
       exact ⟨⟨_, by go_num, by omega, HK, Lib.hid (below_drew' HB2.out)⟩, by simp [intOf]; omega⟩
      | false =>
       have HN := Lib.hid (show ¬ RightC cs from fun h => by
        have hf := (h.fine 0 hjl).first.1 rfl
        rw [← HC.out] at hf
        rw [hf] at he
        exact absurd he (by simp))
       go_wp2_with fail
       go_big_region
       go_wp2_with fail
       exact bodyPost_ret (v := .bool false) (by simp [results, Tryz.results156, go_sem]) rfl ⟨.no HN.out, below_drew' HBW.out⟩
     ·obtain ⟨q, rfl⟩ : ∃ q, j = q + 1 := ⟨j - 1, by omega⟩
      have hq0 : (((q : Int) + 1) == 0) = false := beq_eq_false_iff_ne.2 (by omega)
      have hq1 : decide (0 < ((q : Int) + 1)) = true := decide_eq_true (by omega)
      have hq2 : ((((q + 1 : Nat) : Int)) == 0) = false := beq_eq_false_iff_ne.2 (by omega)
      have hq3 : decide (0 < (((q + 1 : Nat) : Int))) = true := decide_eq_true (by omega)
      cases he : c.low.isEmpty with
      | true =>
       have HN := Lib.hid (show ¬ RightC cs from fun h => by
        have hf := (h.fine (q + 1) hjl).first.2 (by rw [← HC.out]; simpa using he)
        omega)
       go_wp2_with fail
       go_big_region
       go_wp2_with fail
       exact bodyPost_ret (v := .bool false) (by simp [results, Tryz.results156, go_sem]) rfl ⟨.no HN.out, below_drew' HBW.out⟩
      | false =>
       obtain ⟨b1, off1, e1, hb1, u0, -, -, -⟩ := hs.cells4C q (by omega)
       simp only [Option.some.injEq, Addr.mk.injEq, and_true] at e1
       obtain ⟨rfl, rfl⟩ := e1
       have p0 := (cell_below HBW.out hb _).trans u0
       clear u0
       obtain ⟨pr, hpr⟩ : ∃ pr, pr = cs[q] := ⟨_, rfl⟩
       rw [← hpr] at p0
       have HPR := Lib.hid hpr
       clear hpr
       cases hbl : bl pr.low c.low with
       | true =>
        have HK := Lib.hid (take_fine (hj := hjl) HF.out ⟨by rw [← HC.out]; exact HCO.out, ⟨fun h => absurd h (by omega), fun h => by rw [← HC.out] at h; rw [h] at he; exact absurd he (by simp)⟩, fun h0 => by
         rw [← HC.out]
         show bl cs[q].low c.low = true
         rw [← HPR.out]; exact hbl⟩)
        have hb1' : Op.bytesLess c.low pr.low = false := bl_asymm hbl
        have hb2' : (pr.low == c.low) = false := by simpa using bl_ne hbl
        have hb3' : Op.bytesLess pr.low c.low = true := hbl
        clear hbl
        go_wp2_with fail
        go_big_region
        go_wp2_with fail
        exact ⟨⟨_, by go_num, by omega, HK, Lib.hid (below_drew' HB2.out)⟩, by simp [intOf]; omega⟩
       | false =>
        have HN := Lib.hid (show ¬ RightC cs from fun h => by
         have hf := (h.fine (q + 1) hjl).next (by omega)
         rw [← HC.out] at hf
         have hf' : bl cs[q].low c.low = true := hf
         rw [← HPR.out, hbl] at hf'
         exact absurd hf' (by simp))
        have hb3' : Op.bytesLess pr.low c.low = false := hbl
        rcases bl_not hbl with e | e
        ·have hb2' : (pr.low == c.low) = true := by simpa using e.symm
         clear hbl e
         go_wp2_with fail
         go_big_region
         go_wp2_with fail
         exact bodyPost_ret (v := .bool false) (by simp [results, Tryz.results156, go_sem]) rfl ⟨.no HN.out, below_drew' HBW.out⟩
        ·have hb1' : Op.bytesLess c.low pr.low = true := e
         clear hbl e
         go_wp2_with fail
         go_big_region
         go_wp2_with fail
         exact bodyPost_ret (v := .bool false) (by simp [results, Tryz.results156, go_sem]) rfl ⟨.no HN.out, below_drew' HBW.out⟩
    ·have h16' : (16 : Int) < (c.low.length : Int) := by omega
     have HN := Lib.hid (show ¬ RightC cs from fun h => by
      have hf := (h.fine j hjl).ok.low
      rw [← HC.out] at hf
      omega)
     go_wp2_with fail
     go_big_region
     go_wp2_with fail
     exact bodyPost_ret (v := .bool false) (by simp [results, Tryz.results156, go_sem]) rfl ⟨.no HN.out, below_drew' HBW.out⟩
  ·obtain rfl : j = cs.length := by omega
   by_cases h1 : 1 ≤ cs.length
   ·by_cases h2 : cs.length ≤ 16
    ·have HR := Lib.hid (rightC_of ⟨h1, h2⟩ (fun i hi => HF.out i hi hi))
     have h2' : (cs.length : Int) ≤ 16 := by omega
     go_wp2_with fail
     exact bodyPost_ret (v := .bool true) (by simp [results, Tryz.results156, go_sem]) rfl ⟨.yes HR.out, HX.out.trans (HB.out.mono (by omega))⟩
    ·have HR := Lib.hid (fun h : RightC cs => h2 h.len.2)
     have h2' : ¬ (cs.length : Int) ≤ 16 := by omega
     go_wp2_with fail
     exact bodyPost_ret (v := .bool false) (by simp [results, Tryz.results156, go_sem]) rfl ⟨.no HR.out, HX.out.trans (HB.out.mono (by omega))⟩
   ·have HR := Lib.hid (fun h : RightC cs => h1 h.len.1)
    go_wp2_with fail
    exact bodyPost_ret (v := .bool false) (by simp [results, Tryz.results156, go_sem]) rfl ⟨.no HR.out, HX.out.trans (HB.out.mono (by omega))⟩
open Go.RowKit
attribute [local go_sem ↓] Go.wp_at_zero Go.wp_at_succ
theorem textAcc_two (l : List Upd) (hw : ∀ u ∈ l, u.Wf) : ((∀ u ∈ l, Okay u) ∧ textAcc [] l = (textU l, 0)) ∨ ((¬ ∀ u ∈ l, Okay u) ∧ ∃ c : Nat, c ≠ 0 ∧ textAcc [] l = ([], c)) := by
 by_cases h : ∀ u ∈ l, u.check = 0
 ·exact Or.inl ⟨fun u hu => ⟨hw u hu, h u hu⟩, by rw [textAcc_ok l [] h]; simp⟩
 ·refine Or.inr ⟨fun k => h fun u hu => (k u hu).check, ?_⟩
  have : ∀ (l : List Upd) (acc : List UInt8), (¬ ∀ u ∈ l, u.check = 0) → ∃ c : Nat, c ≠ 0 ∧ textAcc acc l = ([], c) := by
   intro l
   induction l with
   | nil => intro acc h; exact absurd (fun u hu => by simp at hu) h
   | cons u l ih =>
    intro acc h
    by_cases hc : u.check = 0
    ·rw [textAcc, if_pos hc]
     exact ih _ (fun k => h fun x hx => by
      rcases List.mem_cons.1 hx with rfl | hx
      ·exact hc
      ·exact k x hx)
    ·exact ⟨u.check, hc, by rw [textAcc, if_neg hc]⟩
  exact this l [] h
structure RightN (cs : List Chd) (us : List Upd) : Prop where
 kids : RightC cs
 len : us.length ≤ 64
 ok : ∀ u ∈ us, Okay u
theorem RightN.node {cs : List Chd} {us : List Upd} (h : RightN cs us) (hr : Rising Upd.key us) : NodeOk cs us := ⟨h.kids, h.len, h.ok, hr⟩
theorem NodeOk.right {cs : List Chd} {us : List Upd} (h : NodeOk cs us) : RightN cs us := ⟨h.kids, h.len, h.ok⟩
structure NodeIn (cs : List Chd) (us : List Upd) : Prop where
 lenC : cs.length ≤ 1000
 lenU : us.length ≤ 10000
 wfC : ∀ c ∈ cs, c.Wf
 low : ∀ c ∈ cs, c.low.length ≤ 1000000
 wfU : ∀ u ∈ us, u.Wf
theorem nodeRight_any (v : Value) (cs : List Chd) (us : List Upd) (w : World) (h : NodeAt w v cs us) (hi : NodeIn cs us) :
  Calls Tryz.prog 117 #[v] w fun e w' => TellsB e (RightN cs us) ∧ Below w.heap.size w w' := by
 have HCH := Lib.hid (fun w' h => children_any v cs us w' h hi.lenC hi.wfC hi.low)
 have HN := Lib.hid h
 obtain ⟨a, b, x, y, rfl, h1, h2⟩ := h
 obtain ⟨ao, c, e, hs, -⟩ := id h2
 simp only [Value.slice.injEq] at e
 obtain ⟨rfl, -, rfl⟩ := e
 have HBT := Lib.hid (fun w' h => bufText_gen b us.length y us w' rfl h hi.lenU hi.wfU)
 have H2 := Lib.hid (textAcc_two us hi.wfU)
 have HS := Lib.hid hs
 clear hs h1 h2
 go_enter Tryz.func117, Tryz.ntmps117
 go_upto_region 1 with (fail)
 have hX : Below w.heap.size w (w.alloc (.cells #[.slice a cs.length x, .slice b us.length y] 105)) := by go_grown
 have HP := Lib.hid (show (w.alloc (.cells #[.slice a cs.length x, .slice b us.length y] 105)).cell? ⟨w.heap.size, 0, none⟩ = some (.slice a cs.length x) ∧ (w.alloc (.cells #[.slice a cs.length x, .slice b us.length y] 105)).cell? ⟨w.heap.size, 1, none⟩ = some (.slice b us.length y) by refine ⟨?_, ?_⟩ <;> (rw [World.cell?_alloc_at _ _ _ _ rfl]; rfl))
 obtain ⟨W, hW⟩ : ∃ W, W = w.alloc (.cells #[.slice a cs.length x, .slice b us.length y] 105) := ⟨_, rfl⟩
 rw [← hW] at hX HP ⊢
 clear hW
 obtain ⟨p0, p1⟩ := HP.out
 go_wp2_with fail
 refine (HBT.out W (HS.out.kept hX (Nat.le_refl _))).mono ?_
 rintro e w1 ⟨rfl, hB1⟩
 have q0 := kept_cell hB1 p0
 have q1 := kept_cell hB1 p1
 have HL1 := Lib.hid (hX.trans (hB1.mono hX.size))
 clear hB1 hX p0 p1 HP HBT HS
 rcases H2.out with ⟨hok, ht⟩ | ⟨hno, ec, hc0, ht⟩
 ·rw [ht]
  have HOK := Lib.hid hok
  clear hok ht
  by_cases h64 : us.length ≤ 64
  ·have h64' : (us.length : Int) ≤ 64 := by omega
   go_wp2_with fail
   refine (lenU_next b us.length y w1).mono ?_
   rintro e w2 ⟨rfl, hB2⟩
   have r0 := kept_cell hB2 q0
   have r1 := kept_cell hB2 q1
   have HL2 := Lib.hid (HL1.out.trans (hB2.mono HL1.out.size))
   clear hB2 q0 q1 HL1
   go_wp2_with fail
   refine (HCH.out w2 (HN.out.kept HL2.out (Nat.le_refl _))).mono ?_
   rintro e w3 ⟨⟨r, rfl, hr⟩, hB3⟩
   have HL3 := Lib.hid (HL2.out.trans (hB3.mono HL2.out.size))
   have HR := Lib.hid (show r = true ↔ RightN cs us from ⟨fun h => ⟨hr.1 h, h64, HOK.out⟩, fun h => hr.2 h.kids⟩)
   clear hr hB3
   go_wp2_with fail
   exact bodyPost_ret (v := .bool r) (by simp [results, Tryz.results117, go_sem]) rfl ⟨⟨r, rfl, HR.out⟩, HL3.out⟩
  ·have h64' : ¬ (us.length : Int) ≤ 64 := by omega
   have HR := Lib.hid (show ¬ RightN cs us from fun h => h64 h.len)
   go_wp2_with fail
   refine (lenU_next b us.length y w1).mono ?_
   rintro e w2 ⟨rfl, hB2⟩
   have HL2 := Lib.hid (HL1.out.trans (hB2.mono HL1.out.size))
   clear hB2 q0 q1 HL1
   go_wp2_with fail
   exact bodyPost_ret (v := .bool false) (by simp [results, Tryz.results117, go_sem]) rfl ⟨.no HR.out, HL2.out⟩
 ·rw [ht]
  have HR := Lib.hid (show ¬ RightN cs us from fun h => hno h.ok)
  have hc0' : ¬ (ec : Int) = 0 := by omega
  clear hno ht
  go_wp2_with fail
  exact bodyPost_ret (v := .bool false) (by simp [results, Tryz.results117, go_sem]) rfl ⟨.no HR.out, HL1.out⟩
end Go.Proofs.YtafciefjlkdecaaGreat
