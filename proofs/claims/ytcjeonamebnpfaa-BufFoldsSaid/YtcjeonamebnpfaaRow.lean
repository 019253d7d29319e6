/-
  Rows of structs, of the call's own: copies of elements of several cells; an insertion into such a row, told as lists of cells.
-/
import Derived.Test.YtcjeonamebnpfaaSl
import Derived.Laws.IdiomCopy
import Derived.Laws.OwnMore
import Derived.Lib.AppendZerosOnto
import Derived.Lib.Overlaps
import Derived.Maps.AppendAt
import Derived.Deep.RegionLaw
namespace Go.Proofs.Ytcjeonamebnpfaa
open Go.RowKit

section
variable {P : Program} (w : World)
/-- 'copy(d, s)' of elements of k cells, into a row that is known whole. -/
theorem run_copyK (dT sT ty elem : TypeId) (k g o dLen dCap : Nat) (a : Addr) (sLen sCap : Nat) (cur : Array Value) (t : TypeId) (cs : List Value) (m : Nat)
    (hu : P.underlying dT = some (.slice elem)) (hs : (P.info? elem).map (·.size) = some k)
    (hg : w.heap[g]? = some (.cells cur t (0, 0))) (hm : Nat.min sLen dLen = m) (hn : cs.length = m * k)
    (hsrc : ∀ j v, cs[j]? = some v → w.cell? (a.add j) = some v) (hfit : o + cs.length ≤ cur.size) (h1 : ∀ v ∈ cs, v.oneCell' = true) :
    (Builtin.copy_ #[dT, sT] ty #[.slice (some ⟨g, o, none⟩) dLen dCap, .slice (some a) sLen sCap]).run P w =
      .ok (goInt m) (w.setRow g (cur.toList.take o ++ cs ++ cur.toList.drop (o + cs.length)).toArray) := by
  have hst := run_storeCells_at P g o t cs 0 cur w hg (by simpa using hfit) h1
  cases hq : P.info? elem with
  | none => simp [hq] at hs
  | some i =>
    have hi : i.size = k := by simpa [hq] using hs
    have hf := run_firstCells_some (P := P) w k m a sLen sCap cs hn hsrc
    simp [Builtin.copy_, run_underlying hu, Builtin.lenOf, sizeOf, typeInfo, hq, hi, hm, hf, hst]
end

/-- The operation, where its run is known by an equation. -/
theorem wpList_copy_eq {P : Program} (w : World) {ops : Array Oper} {rest : List Oper} {o : Oper} {a : Act} {Q : Exit → Act → World → Prop} (hgd : o.guard = none) (d s : Operand) (t t' : TypeId)
    (ho : o.op = .call { callee := .builtin .copy, args := #[d, s], argTypes := #[t, t'] }) (v u : Value) (hd : a.eval d = v) (hs : a.eval s = u) {v' : Value} {w' : World}
    (hr : (Builtin.copy_ #[t, t'] o.type #[v, u]).run P w = .ok v' w') (h : wpList P ops Q rest (a.put o.dst v') w') : wpList P ops Q (o :: rest) a w := by
  refine wpList_plain hgd fun K hK => ?_
  unfold Oper.wp
  simp only [execOp, ho, resolve, invoke, builtin, Sem.run_bind, Sem.run_pure, Result.andThen_ok, List.map_toArray, List.map_cons, List.map_nil, hd, hs, hr]
  exact hK _ _ h
/-- .. and as one step of a region that draws. -/
theorem step_copy_eq {P : Program} {ops : Array Oper} {o : Oper} {a : Act} {w : World} {K : Act → World → Prop} {Q : Exit → Act → World → Prop} {E : Prop}
    (hg : o.guard = none) (d x : Operand) (dT sT : TypeId) (hop : o.op = Op.call { callee := Callee.builtin Builtin.copy, args := #[d, x], argTypes := #[dT, sT] })
    (v u : Value) (hd : a.eval d = v) (hx : a.eval x = u) {v' : Value} {w' : World} (hr : (Builtin.copy_ #[dT, sT] o.type #[v, u]).run P w = .ok v' w') (hK : K (a.put o.dst v') w') :
    if Region.wanted o (yielded ops a.tmps) = true then Oper.wp P o a w K Q else E := by
  have hw : Region.wanted o (yielded ops a.tmps) = true := by simp [Region.wanted, hg]
  rw [if_pos hw]
  unfold Oper.wp
  simp [execOp, hop, resolve, invoke, builtin, hd, hx, hr, Result.andThen]
  exact hK

/-- A row that is known whole: block g of elements of type E. -/
def RowIs (w : World) (E : TypeId) (g : Nat) (cur : List Value) : Prop := w.heap[g]? = some (.cells cur.toArray E (0, 0))
theorem RowIs.lt {w : World} {E : TypeId} {g : Nat} {cur : List Value} (h : RowIs w E g cur) : g < w.heap.size := (Array.getElem?_eq_some_iff.1 h).1
theorem RowIs.cell {w : World} {E : TypeId} {g : Nat} {cur : List Value} (h : RowIs w E g cur) (j : Nat) : w.cell? ⟨g, j, none⟩ = cur[j]? := by
  rw [cell_of_row w g j _ _ _ h, List.getElem?_toArray]
theorem RowIs.frozen {w : World} {E : TypeId} {g : Nat} {cur : List Value} (h : RowIs w E g cur) (j : Nat) : w.frozen? ⟨g, j, none⟩ = false := frozen_of_row w g j _ E h
theorem RowIs.set {w : World} {E : TypeId} {g : Nat} {cur : List Value} (h : RowIs w E g cur) (new : List Value) : RowIs (w.setRow g new.toArray) E g new := setRow_heap w g _ _ E _ h
theorem RowIs.drew {w : World} {E : TypeId} {g : Nat} {cur : List Value} (h : RowIs w E g cur) : RowIs w.drew E g cur := h
theorem RowIs.new (w : World) (E : TypeId) (cur : List Value) : RowIs (w.alloc (.cells cur.toArray E)) E w.heap.size cur := heap_alloc_new w _
theorem RowIs.alloc {w : World} {E : TypeId} {g : Nat} {cur : List Value} (h : RowIs w E g cur) (o : Obj) : RowIs (w.alloc o) E g cur := (heap_alloc_old w o h.lt).trans h
theorem RowIs.shape {w : World} {E : TypeId} {g : Nat} {cur : List Value} (h : RowIs w E g cur) : w.shape? g = some (E, cur.length) := by
  unfold World.shape?
  rw [show w.heap[g]? = _ from h]
  simp
theorem grown_setRow (w : World) (g : Nat) (new : Array Value) : w.grownBy (w.setRow g new) (some g) :=
  ⟨rfl, rfl, rfl, by simp [World.setRow], fun k _ hk => setRow_other w g k new (fun e => hk (by rw [e]))⟩
theorem World.grownBy.trans' {a b c : World} {r : Option Nat} (h : a.grownBy b r) (k : b.grownBy c r) : a.grownBy c r :=
  ⟨k.os.trans h.os, k.tape.trans h.tape, k.output.trans h.output, Nat.le_trans h.size k.size, fun i hi hr => (k.block i (Nat.lt_of_lt_of_le hi h.size) hr).trans (h.block i hi hr)⟩

theorem below_grown_new {w w1 : World} {o : Obj} {r : Option Nat} (h : (w.alloc o).grownBy w1 r) (hr : ∀ k, r = some k → w.heap.size ≤ k) : Below w.heap.size w w1 :=
  ⟨h.os, h.tape, h.output, Nat.le_trans (by simp) h.size, fun k hk => (h.block k (by simp; omega) (fun e => by have := hr k e.symm; omega)).trans (Below.heap_alloc _ _ _ hk)⟩
theorem below_grown {B : Nat} {w0 w w1 : World} {r : Option Nat} (hb : Below B w0 w) (h : w.grownBy w1 r) (hr : ∀ k, r = some k → B ≤ k) (hB : B ≤ w.heap.size) : Below B w0 w1 :=
  hb.trans ⟨h.os, h.tape, h.output, h.size, fun k hk => h.block k (by omega) (fun e => by have := hr k e.symm; omega)⟩
/-- A row of the call's own, opened: nil and nothing, or a block known whole. -/
theorem ownsRow_open {w : World} {B : Nat} {E : TypeId} {k : Nat} {v : Value} {n : Nat} {xs : List Value} (h : w.ownsRow B E k v n xs) :
    (v = .slice none 0 0 ∧ n = 0 ∧ xs = []) ∨ ∃ g cap cur, v = .slice (some ⟨g, 0, none⟩) n cap ∧ B ≤ g ∧ RowIs w E g cur ∧ n ≤ cap ∧ cap ≤ maxLen ∧ cur.length = cap * k ∧ cur.take (n * k) = xs := by
  obtain ⟨hl, ⟨rfl, rfl⟩ | ⟨g, cap, cur, rfl, h1, h2, h3, h4, h5, h6⟩⟩ := h
  · exact Or.inl ⟨rfl, rfl, List.eq_nil_of_length_eq_zero (by rw [hl]; omega)⟩
  · exact Or.inr ⟨g, cap, cur.toList, rfl, h1, by unfold RowIs; rw [h2, Array.toArray_toList], h3, h4, by simpa using h5, h6⟩
theorem ownsRow_shut {w : World} {B : Nat} {E : TypeId} {k g n cap : Nat} {cur xs : List Value} (h1 : B ≤ g) (h2 : RowIs w E g cur) (h3 : n ≤ cap) (h4 : cap ≤ maxLen) (h5 : cur.length = cap * k) (h6 : cur.take (n * k) = xs) :
    w.ownsRow B E k (.slice (some ⟨g, 0, none⟩) n cap) n xs := by
  refine ⟨?_, Or.inr ⟨g, cap, cur.toArray, rfl, h1, h2, h3, h4, by simpa using h5, by simpa using h6⟩⟩
  rw [← h6, List.length_take, h5]
  exact Nat.min_eq_left (Nat.mul_le_mul_right k h3)

theorem RowIs.kept {w w' : World} {E : TypeId} {g : Nat} {cur : List Value} {r : Option Nat} (h : RowIs w E g cur) (hg : w.grownBy w' r) (hne : some g ≠ r) : RowIs w' E g cur := (hg.block g h.lt hne).trans h
theorem RowIs.cells {w : World} {E : TypeId} {g : Nat} {cur : List Value} (h : RowIs w E g cur) (o : Nat) (cs : List Value) (hc : ∀ j v, cs[j]? = some v → cur[o + j]? = some v) : ∀ j v, cs[j]? = some v → w.cell? ((⟨g, o, none⟩ : Addr).add j) = some v := by
  intro j v hv
  rw [show (⟨g, o, none⟩ : Addr).add j = ⟨g, o + j, none⟩ by simp [Addr.add], h.cell]
  exact hc j v hv
/-- A row with some cells laid over it. -/
def over (cur : List Value) (o : Nat) (cs : List Value) : List Value := cur.take o ++ (cs ++ cur.drop (o + cs.length))

/-- 'copy(d, s)' at the operation. -/
theorem wpList_copyK {P : Program} (w : World) {ops : Array Oper} {rest : List Oper} {o : Oper} {a : Act} {Q : Exit → Act → World → Prop} (hgd : o.guard = none) (d s : Operand) (t t' : TypeId)
    (ho : o.op = .call { callee := .builtin .copy, args := #[d, s], argTypes := #[t, t'] }) (E : TypeId) (k : Nat) (hu : P.underlying t = some (.slice E)) (hs : (P.info? E).map (·.size) = some k)
    (g off dLen dCap : Nat) (ad : Addr) (sLen sCap : Nat) (hd : a.eval d = .slice (some ⟨g, off, none⟩) dLen dCap) (hsr : a.eval s = .slice (some ad) sLen sCap) (cur cs : List Value) (m : Nat)
    (hrow : RowIs w E g cur) (hm : Nat.min sLen dLen = m) (hn : cs.length = m * k) (hsrc : ∀ j v, cs[j]? = some v → w.cell? (ad.add j) = some v) (hfit : off + cs.length ≤ cur.length) (h1 : ∀ v ∈ cs, v.oneCell' = true)
    (h : ∀ w', RowIs w' E g (over cur off cs) → w.grownBy w' (some g) → wpList P ops Q rest (a.put o.dst (goInt m)) w') : wpList P ops Q (o :: rest) a w := by
  have hr := run_copyK (P := P) w t t' o.type E k g off dLen dCap ad sLen sCap cur.toArray E cs m hu hs hrow hm hn hsrc (by simpa using hfit) h1
  refine wpList_copy_eq w hgd d s t t' ho _ _ hd hsr hr (h _ ?_ (grown_setRow _ _ _))
  have := hrow.set (over cur off cs)
  simpa [over] using this
theorem step_copyK {P : Program} {ops : Array Oper} {o : Oper} {a : Act} {w : World} {K : Act → World → Prop} {Q : Exit → Act → World → Prop} {E0 : Prop}
    (hgd : o.guard = none) (d s : Operand) (t t' : TypeId) (ho : o.op = Op.call { callee := Callee.builtin Builtin.copy, args := #[d, s], argTypes := #[t, t'] }) (E : TypeId) (k : Nat) (hu : P.underlying t = some (.slice E)) (hs : (P.info? E).map (·.size) = some k)
    (g off dLen dCap : Nat) (ad : Addr) (sLen sCap : Nat) (hd : a.eval d = .slice (some ⟨g, off, none⟩) dLen dCap) (hsr : a.eval s = .slice (some ad) sLen sCap) (cur cs : List Value) (m : Nat)
    (hrow : RowIs w E g cur) (hm : Nat.min sLen dLen = m) (hn : cs.length = m * k) (hsrc : ∀ j v, cs[j]? = some v → w.cell? (ad.add j) = some v) (hfit : off + cs.length ≤ cur.length) (h1 : ∀ v ∈ cs, v.oneCell' = true)
    (h : ∀ w', RowIs w' E g (over cur off cs) → w.grownBy w' (some g) → K (a.put o.dst (goInt m)) w') :
    if Region.wanted o (yielded ops a.tmps) = true then Oper.wp P o a w K Q else E0 := by
  have hr := run_copyK (P := P) w t t' o.type E k g off dLen dCap ad sLen sCap cur.toArray E cs m hu hs hrow hm hn hsrc (by simpa using hfit) h1
  refine step_copy_eq hgd d s t t' ho _ _ hd hsr hr (h _ ?_ (grown_setRow _ _ _))
  have := hrow.set (over cur off cs)
  simpa [over] using this

theorem zeroCells_len (z : Array Value) (k : Nat) : (Builtin.zeroCells z k).size = k * z.size := by simp [Builtin.zeroCells]
/-- 'append(s, make([]T, m)...)' without room, at the operation. -/
theorem wpList_append_zeros {P : Program} (w : World) {ops : Array Oper} {rest : List Oper} {o : Oper} {a : Act} {Q : Exit → Act → World → Prop} (hgd : o.guard = none) (s x : Operand) (t tn : TypeId)
    (ho : o.op = .call { callee := .builtin .append, args := #[s, x], argTypes := #[t, tn] }) (E : TypeId) (i : TypeInfo) (z : Value) (k bytes : Nat) (ht : P.underlying t = some (.slice E)) (htn : P.underlying tn = some (.int .i64)) (hi : P.info? E = some i) (hz : i.zero = some z)
    (hk : i.size = k) (hby : i.bytes = bytes) (hzs : z.cells.size = k) (hk0 : 0 < k) (hb0 : bytes ≤ 1000) (b n cap : Nat) (cur : List Value) (hrow : RowIs w E b cur) (hs : a.eval s = .slice (some ⟨b, 0, none⟩) n cap) (m : Nat) (hx : a.eval x = .int .i64 (m : Int))
    (hfit : n * k ≤ cur.length) (hm : 0 < m) (hroom : cap < n + m) (tot : Nat) (htot : n + m = tot) (hsmall : n + m ≤ 4000000)
    (h : ∀ w' G zs, RowIs w' E w.heap.size (cur.take (n * k) ++ zs) → zs.length = (G - n) * k → tot ≤ G → G ≤ maxLen → w.grownBy w' none → wpList P ops Q rest (a.put o.dst (.slice (some ⟨w.heap.size, 0, none⟩) tot G)) w') :
    wpList P ops Q (o :: rest) a w := by
  subst hk hby htot
  have hold : (Builtin.firstCells i.size n (.slice (some ⟨b, 0, none⟩) n cap)).run P w.drew = .ok (cur.take (n * i.size)).toArray w.drew :=
    run_firstCells_some w.drew i.size n ⟨b, 0, none⟩ n cap (cur.take (n * i.size)) (by rw [List.length_take]; omega) (hrow.drew.cells 0 _ fun j v hv => by
      rw [List.getElem?_take] at hv
      split at hv
      · rw [Nat.zero_add]; exact hv
      · simp at hv)
  have hcap : Builtin.nextslicecap (n + m) cap * i.bytes ≤ 281474976710656 := growslice_fits hroom (by
    have : (n + m) * i.bytes ≤ 4000000 * 1000 := Nat.mul_le_mul hsmall hb0
    omega)
  have hr := Lib.run_append_grow_zeros (P := P) w t tn o.type E i z .i64 .i64 ht htn hi hz (some ⟨b, 0, none⟩) n cap (cur.take (n * i.size)) hold m hm hk0 hroom (by omega) (by
    have : m * i.bytes ≤ 4000000 * 1000 := Nat.mul_le_mul (by omega) hb0
    omega) hcap
  have hG := grownCap_ge w (n + m) cap E
  have hGm := grownCap_le_maxLen w (n + m) cap E (by unfold maxLen; omega)
  generalize grownCap w (n + m) cap E = G at *
  refine Lib.wpList_append_run w hgd s x t tn ho _ _ hs hx _ _ hr (h _ G ((Builtin.zeroCells z.cells m).toList ++ (Builtin.zeroCells z.cells (G - (n + m))).toList) ?_ ?_ hG hGm ⟨rfl, rfl, rfl, by simp [World.alloc], fun j hj _ => heap_alloc_old w.drew _ hj⟩)
  · have e : (cur.take (n * i.size)).toArray ++ Builtin.zeroCells z.cells m ++ Builtin.zeroCells z.cells (G - (n + m)) = (cur.take (n * i.size) ++ ((Builtin.zeroCells z.cells m).toList ++ (Builtin.zeroCells z.cells (G - (n + m))).toList)).toArray := by
      apply Array.ext'; simp
    rw [e]
    exact RowIs.new w.drew E _
  · rw [List.length_append, Array.length_toList, Array.length_toList, zeroCells_len, zeroCells_len, hzs, ← Nat.add_mul]
    congr 1; omega

theorem over_len {cur cs : List Value} {o : Nat} (h : o + cs.length ≤ cur.length) : (over cur o cs).length = cur.length := by simp [over]; omega
/-- Laid behind the first ones. -/
theorem over_behind (P Z cs : List Value) (o : Nat) (ho : P.length = o) : over (P ++ Z) o cs = P ++ (cs ++ Z.drop cs.length) := by
  subst ho
  simp [over, List.drop_append]
/-- Two laid one behind the other. -/
theorem over_two (P Z cs ds : List Value) (o m : Nat) (ho : P.length = o) (hm : o + cs.length = m) (n : Nat) (hn : m + ds.length = n) : (over (over (P ++ Z) o cs) m ds).take n = P ++ (cs ++ ds) := by
  rw [over_behind P Z cs o ho, ← List.append_assoc, over_behind (P ++ cs) _ ds m (by simp; omega), ← List.append_assoc, List.take_append_of_le_length (by simp; omega), List.take_of_length_le (by simp; omega)]
  simp
/-- Moved up, and one put into the gap. -/
theorem over_gap (P Q R X : List Value) (o m : Nat) (ho : P.length = o) (hm : o + X.length = m) (n : Nat) (hn : m + Q.length = n) (hR : X.length ≤ R.length) : (over (over (P ++ (Q ++ R)) m Q) o X).take n = P ++ (X ++ Q) := by
  have hT : ((P ++ (Q ++ R)).take m).length = m := by rw [List.length_take]; simp; omega
  have e1 : over (P ++ (Q ++ R)) m Q = (P ++ (Q ++ R)).take m ++ (Q ++ (P ++ (Q ++ R)).drop (m + Q.length)) := rfl
  have e2 : (P ++ (Q ++ R)).take m = P ++ (Q ++ R).take X.length := by rw [← hm, ← ho, List.take_length_add_append]
  rw [e1, e2, List.append_assoc, over_behind P _ X o ho, List.drop_append_of_le_length (by rw [List.length_take]; simp; omega), List.drop_eq_nil_of_le (by rw [List.length_take]; omega), List.nil_append]
  rw [← List.append_assoc X, ← List.append_assoc P, List.take_append_of_le_length (by simp; omega), List.take_of_length_le (by simp; omega)]

theorem grown_new {a b c : World} {r : Option Nat} {g : Nat} (h : a.grownBy b r) (k : b.grownBy c (some g)) (hg : a.heap.size ≤ g) : a.grownBy c r :=
  ⟨k.os.trans h.os, k.tape.trans h.tape, k.output.trans h.output, Nat.le_trans h.size k.size, fun i hi hr => (k.block i (Nat.lt_of_lt_of_le hi h.size) (fun e => by simp at e; omega)).trans (h.block i hi hr)⟩
theorem grown_drew {a b : World} {r : Option Nat} (h : a.grownBy b r) : a.grownBy b.drew r := ⟨h.os, h.tape, h.output, h.size, h.block⟩

theorem grown_undrew {a b : World} {r : Option Nat} (h : a.drew.grownBy b r) : a.grownBy b r := ⟨h.os, h.tape, h.output, h.size, h.block⟩
theorem grown_trans' {a b c : World} {r : Option Nat} (h : a.grownBy b r) (k : b.grownBy c r) : a.grownBy c r :=
  ⟨k.os.trans h.os, k.tape.trans h.tape, k.output.trans h.output, Nat.le_trans h.size k.size, fun i hi hr => (k.block i (Nat.lt_of_lt_of_le hi h.size) hr).trans (h.block i hi hr)⟩

/-- 'append(s, x...)' of a row of the call's own, as one step of a region that draws. -/
theorem step_append_own {P : Program} {ops : Array Oper} {o : Oper} {a : Act} {w : World} {K : Act → World → Prop} {Q : Exit → Act → World → Prop} {E0 : Prop} (hgd : o.guard = none) (s x : Operand) (t : TypeId)
    (ho : o.op = Op.call { callee := Callee.builtin Builtin.append, args := #[s, x], argTypes := #[t, t] })
    (base : Nat) (e : TypeId) (i : TypeInfo) (z : Value) (size bytes : Nat) (ht : P.underlying t = some (.slice e)) (hi : P.info? e = some i) (hz : i.zero = some z)
    (hsize : i.size = size) (hby : i.bytes = bytes) (hzs : z.cells.size = size) (hsz : 0 < size)
    (v : Value) (n : Nat) (xs : List Value) (hs : a.eval s = v) (hown : w.ownsRow base e size v n xs)
    (ad : Addr) (m c : Nat) (news : List Value) (hx : a.eval x = .slice (some ad) m c) (hl : news.length = m * size) (hnews : ∀ j u, news[j]? = some u → w.cell? (ad.add j) = some u) (h1 : ∀ u ∈ news, u.oneCell' = true)
    (h63 : n + m ≤ maxLen) (hbytes : (n + m) * bytes ≤ 140737488355328) (hbase : base ≤ w.heap.size)
    (h : ∀ v' w', w'.ownsRow base e size v' (n + m) (xs ++ news) → w.grownBy w' v.ownBlock → (v'.ownBlock = v.ownBlock ∨ v'.ownBlock = some w.heap.size) → K (a.put o.dst v') w') :
    if Region.wanted o (yielded ops a.tmps) = true then Oper.wp P o a w K Q else E0 := by
  have hw : Region.wanted o (yielded ops a.tmps) = true := by simp [Region.wanted, hgd]
  rw [if_pos hw]
  obtain ⟨v', w', hr, h2, h3, -, h5⟩ := run_append_own_at (P := P) w base t o.type e i z size bytes ht hi hz hsize hby hzs hsz v n xs hown ad m c news hl hnews h1 h63 hbytes hbase
  unfold Oper.wp
  simp only [execOp, ho, resolve, invoke, builtin, Sem.run_bind, Sem.run_pure, Result.andThen_ok, List.map_toArray, List.map_cons, List.map_nil, hs, hx, hr]
  exact h v' w' h2 h3 h5

theorem own_form {w : World} {B : Nat} {E : TypeId} {k : Nat} {v : Value} {n : Nat} {xs : List Value} (h : w.ownsRow B E k v n xs) : ∃ ao c, v = .slice ao n c := by
  rcases h.2 with ⟨e, hn⟩ | ⟨g, cap, cur, hv, _⟩
  · exact ⟨none, 0, by rw [e, hn]⟩
  · exact ⟨_, _, hv⟩

theorem below_drew' {B : Nat} {a w : World} (h : Below B a w) : Below B a w.drew := ⟨h.os, h.tape, h.output, h.size, h.block⟩

theorem own_base {w : World} {B B' : Nat} {E : TypeId} {k : Nat} {v : Value} {n : Nat} {xs : List Value} (h : w.ownsRow B E k v n xs) (hB : B' ≤ B) : w.ownsRow B' E k v n xs := by
  obtain ⟨hl, h1 | ⟨g, cap, cur, e, h2, h3⟩⟩ := h
  · exact ⟨hl, Or.inl h1⟩
  · exact ⟨hl, Or.inr ⟨g, cap, cur, e, Nat.le_trans hB h2, h3⟩⟩

theorem own_at {w : World} {B : Nat} {E : TypeId} {k : Nat} {ao : Option Addr} {n c : Nat} {xs : List Value} (h : w.ownsRow B E k (.slice ao n c) n xs) (hn : 0 < n) : ∃ g, ao = some ⟨g, 0, none⟩ ∧ B ≤ g ∧ g < w.heap.size ∧ ∀ j x, xs[j]? = some x → w.cell? ⟨g, j, none⟩ = some x := by
  rcases ownsRow_open h with ⟨_, h0, -⟩ | ⟨g, cap, cur, e, hB, hr, h3, -, h5, h6⟩
  · omega
  · simp only [Value.slice.injEq, true_and] at e
    refine ⟨g, e.1, hB, hr.lt, fun j x hx => ?_⟩
    rw [← h6, List.getElem?_take] at hx
    split at hx
    · rw [hr.cell]; exact hx
    · simp at hx

end Go.Proofs.Ytcjeonamebnpfaa
