/-
  Small lemmas that every walk of this seat uses: contracts threaded through what has been kept since a call began; equal returns.
  A region that draws its order, walked once in a class of worlds.
  Texts as lists of bytes: 'S l' is the text whose bytes are l. What the walk's operations on texts come to, said of the lists.
  A slice that is only read: where its elements' cells lie. 'SlAt enc k w ao l': the elements l, each of k cells 'enc x', lie behind the address ao (of which nothing is said where there is no element).
  Rows of structs, of the call's own: copies of elements of several cells; an insertion into such a row, told as lists of cells.
  The walks of layer 1 (lend): widths, numbers as bytes.
  The walk of lend.Read: numbers of bytes.
  A map of the call's own whose values are bools: what it tells of a key, and what a store makes of it.
  What all texts above use: worlds that kept what was there; the least and the greatest of two; a list turned; a list grown from behind.
  The walk of the statement PickMost.
-/
import Derived.Test.YtblleinahlaohaaProg
import Derived.WalkKit
import Derived.WalkSpells
import Derived.WalkLawsBesides
import Derived.Handy
import Derived.Lib.Hide
import Derived.Deep.RegionHeld3
import Derived.BigQuiet
import Derived.Deep.DrawnRows
import Derived.Laws.BytesArg
import Derived.Laws.Concat
import Derived.Laws.Strings2
import Derived.Laws.Strings3
import Derived.Deep.OwnRows
import Derived.Laws.IdiomCopy
import Derived.Laws.OwnMore
import Derived.Lib.AppendZerosOnto
import Derived.Lib.Overlaps
import Derived.Maps.AppendAt
import Derived.Deep.RegionLaw
import Derived.Lib.Walk
import Derived.Laws.BitsAllLaws
import Derived.Laws.BitsLemmas
import Derived.Maps.OwnOps
import Derived.Maps.OwnSet
import Derived.Laws.AppendOwnNone
namespace Go.Proofs.Ytblleinahlaohaa
open Go.RowKit

theorem ret_bool {a b : Bool} (h : a = b) : Ending.returned (.bool a) = .returned (.bool b) := by rw [h]
theorem ret_int {k : IntKind} {a b : Int} (h : a = b) : Ending.returned (.int k a) = .returned (.int k b) := by rw [h]
theorem ret_val {a b : Value} (h : a = b) : Ending.returned a = .returned b := by rw [h]

theorem beq_zero (m : Nat) : ((m : Int) == 0) = decide (m = 0) := by rw [Bool.eq_iff_iff]; simp

/-- What lies below the old size reads as it did. -/
theorem bcell {W w1 : World} (hb : Below W.heap.size W w1) : (∀ b o, b < W.heap.size → w1.cell? ⟨b, o, none⟩ = W.cell? ⟨b, o, none⟩) ∧ (∀ b o, b < W.heap.size → w1.frozen? ⟨b, o, none⟩ = W.frozen? ⟨b, o, none⟩) :=
  ⟨fun b o h => hb.cell (p := ⟨b, o, none⟩) h, fun b o h => hb.frozen (p := ⟨b, o, none⟩) h⟩

/-- A cell that is there is there behind a new block. -/
theorem cell_past {W : World} {a : Addr} {v : Value} (o : Obj) (h : W.cell? a = some v) : (W.alloc o).cell? a = some v := by
  have hlt : a.block < W.heap.size := World.block_lt_of_cell? W a h
  rw [← h]
  exact World.cell?_of_block (Below.heap_alloc W o a.block hlt)

/-- A contract that keeps what was there, carried on from a world further back. -/
theorem thread {P : Program} {f : FuncId} {args : Array Value} {w : World} {R : Ending → World → Prop}
    (hc : Calls P f args w (fun e w' => R e w' ∧ Below w.heap.size w w')) (B : Nat) (w0 : World) (h0 : Below B w0 w) (hB : B ≤ w.heap.size) :
    Calls P f args w (fun e w' => R e w' ∧ Below B w0 w' ∧ (∀ b o, b < w.heap.size → w'.cell? ⟨b, o, none⟩ = w.cell? ⟨b, o, none⟩) ∧ (∀ b o, b < w.heap.size → w'.frozen? ⟨b, o, none⟩ = w.frozen? ⟨b, o, none⟩) ∧ w.heap.size ≤ w'.heap.size ∧ B ≤ w'.heap.size) :=
  hc.mono fun _ _ ⟨hr, hb⟩ => ⟨hr, h0.trans (hb.mono hB), (bcell hb).1, (bcell hb).2, hb.size, Nat.le_trans hB hb.size⟩

/-- A contract that keeps what was there: the cells up to block M that are known, and what lies below since a world further back. -/
theorem carry {P : Program} {f : FuncId} {args : Array Value} {w : World} {R : Ending → World → Prop}
    (hc : Calls P f args w (fun e w' => R e w' ∧ Below w.heap.size w w')) (M B : Nat) (w0 : World) (hM : M < w.heap.size) (h0 : Below B w0 w) (hB : B ≤ M) :
    Calls P f args w (fun e w' => R e w' ∧ (∀ b o v, b ≤ M → w.cell? ⟨b, o, none⟩ = some v → w'.cell? ⟨b, o, none⟩ = some v) ∧ M < w'.heap.size ∧ Below B w0 w') :=
  hc.mono fun _ _ ⟨hr, hb⟩ => ⟨hr, fun b o v h1 h2 => (hb.cell (p := ⟨b, o, none⟩) (by show b < _; omega)).trans h2, Nat.lt_of_lt_of_le hM hb.size, h0.trans (hb.mono (by omega))⟩

end Go.Proofs.Ytblleinahlaohaa

namespace Go.Proofs.Ytblleinahlaohaa
open Go.RowKit

/-- A region that draws its order, walked once, in a class of worlds. -/
theorem wp_region_quietC {P : Program} {C : World → Prop} {id : Nat} {Q : Exit → Act → World → Prop} {a : Act} {w : World} {l : List Oper} (hm : P.follows .mixedOrders = true) (hB : Region.lexB .any l.toArray = true) (hC : C w.drew)
    (h : wpQuiet P l.toArray C (fun a' => ∀ w', C w' → Q .normal a' w') l a) : (Code.region id l.toArray true).wp P Q a w :=
  wp_region_quiet (C := C) hm hB hC (by simpa using h)
/-- The quiet walk, shut: so that nobody reckons it ahead of its time. -/
structure WQ (P : Program) (ops : Array Oper) (C : World → Prop) (Q : Act → Prop) (l : List Oper) (a : Act) : Prop where
  out : wpQuiet P ops C Q l a
theorem WQ.want {P : Program} {ops : Array Oper} {C : World → Prop} {Q : Act → Prop} {o : Oper} {rest : List Oper} {a : Act} (hw : Region.wanted o (yielded ops a.tmps) = true) (h : ∀ K : Act → Prop, (∀ a, WQ P ops C Q rest a → K a) → o.quiet P a C K) : WQ P ops C Q (o :: rest) a :=
  ⟨BigFrame.wpQuiet_want hw fun K hK => h K fun a ha => hK a ha.out⟩
theorem WQ.skip {P : Program} {ops : Array Oper} {C : World → Prop} {Q : Act → Prop} {o : Oper} {rest : List Oper} {a : Act} (hw : Region.wanted o (yielded ops a.tmps) = false) (h : WQ P ops C Q rest (a.put o.dst undef)) : WQ P ops C Q (o :: rest) a :=
  ⟨BigFrame.wpQuiet_skip hw h.out⟩
theorem WQ.done {P : Program} {ops : Array Oper} {C : World → Prop} {Q : Act → Prop} {a : Act} (h : Q a) : WQ P ops C Q [] a := ⟨wpQuiet_nil h⟩
theorem WQ.region {P : Program} {C : World → Prop} {id : Nat} {Q : Exit → Act → World → Prop} {a : Act} {w : World} {l : List Oper} (hm : P.follows .mixedOrders = true) (hB : Region.lexB .any l.toArray = true) (hC : C w.drew)
    (h : WQ P l.toArray C (fun a' => ∀ w', C w' → Q .normal a' w') l a) : (Code.region id l.toArray true).wp P Q a w := wp_region_quietC hm hB hC h.out

end Go.Proofs.Ytblleinahlaohaa

namespace Go.Proofs.Ytblleinahlaohaa
open Go.RowKit

/-- The text whose bytes are l. -/
def S (l : List UInt8) : ByteArray := ⟨l.toArray⟩

theorem S_of (s : ByteArray) : s = S s.data.toList := by cases s; simp [S]
theorem S_ex (s : ByteArray) : ∃ l, s = S l := ⟨_, S_of s⟩
theorem S_inj {a b : List UInt8} (h : S a = S b) : a = b := by
  have := congrArg (fun s : ByteArray => s.data.toList) h
  simpa [S] using this
@[go_sem] theorem S_size (l : List UInt8) : (S l).size = l.length := by simp [S, ByteArray.size]
@[go_sem] theorem S_toList (l : List UInt8) : (S l).toList = l := by simp [S]
theorem S_data (l : List UInt8) : (S l).data.toList = l := by simp [S]
@[go_sem] theorem S_append (a b : List UInt8) : S a ++ S b = S (a ++ b) := by simp only [S]; exact ByteArray.mk_append_mk a b
@[go_sem] theorem S_extract (l : List UInt8) (a b : Nat) : (S l).extract a b = S ((l.drop a).take (b - a)) := by simp only [S]; exact ByteArray.extract_mk l a b
@[go_sem] theorem S_get (l : List UInt8) (i : Nat) (h : i < (S l).size) : (S l)[i] = l[i]'(by rwa [S_size] at h) := by
  simp only [S]; rfl
theorem S_nil : S [] = ByteArray.empty := rfl
theorem S_lit (l : List UInt8) : (⟨l.toArray⟩ : ByteArray) = S l := rfl
theorem strOfNums_S (ns : List Int) : strOfNums ns = S (ns.map fun n => UInt8.ofNat n.toNat) := rfl

theorem cell_new (w : World) (c : Array Value) (e : TypeId) (fz : Nat × Nat) (i : Nat) : (w.alloc (.cells c e fz)).cell? ⟨w.heap.size, i, none⟩ = c[i]? :=
  cell_of_row _ w.heap.size i c e fz (heap_alloc_new w _)

/-- What 'string(b)' comes to, b of one byte at the head of block n: by what the cell there holds. -/
def conv1 (P : Program) (src dst : TypeId) (W : World) (n c : Nat) : Option Value → Result Value
  | some (.int .u8 x) => .ok (.string (S [UInt8.ofNat x.toNat])) W
  | _ => (convert src dst (.slice (some ⟨n, 0, none⟩) 1 c)).run P W
@[go_sem] theorem conv1_some (P : Program) (src dst : TypeId) (W : World) (n c : Nat) (x : Int) : conv1 P src dst W n c (some (.int .u8 x)) = .ok (.string (S [UInt8.ofNat x.toNat])) W := rfl
theorem run_str1 {P : Program} (src dst e : TypeId) (hs : P.underlying src = some (.slice e)) (he : P.underlying e = some (.int .u8)) (hd : P.underlying dst = some .string) (W : World) (n c : Nat) :
    (convert src dst (.slice (some ⟨n, 0, none⟩) 1 c)).run P W = conv1 P src dst W n c (W.cell? ⟨n, 0, none⟩) := by
  cases h : W.cell? ⟨n, 0, none⟩ with
  | none => rfl
  | some v =>
    cases v with
    | int k x =>
      cases k <;> first
        | rfl
        | (refine run_convert_bytes_arg W src e hs he n 0 1 c [x] rfl (fun i hi => ?_) dst hd
           obtain rfl : i = 0 := by omega
           exact h)
    | _ => rfl
/-- The same, of two bytes. -/
def conv2 (P : Program) (src dst : TypeId) (W : World) (n c : Nat) : Option Value → Option Value → Result Value
  | some (.int .u8 x), some (.int .u8 y) => .ok (.string (S [UInt8.ofNat x.toNat, UInt8.ofNat y.toNat])) W
  | _, _ => (convert src dst (.slice (some ⟨n, 0, none⟩) 2 c)).run P W
@[go_sem] theorem conv2_some (P : Program) (src dst : TypeId) (W : World) (n c : Nat) (x y : Int) : conv2 P src dst W n c (some (.int .u8 x)) (some (.int .u8 y)) = .ok (.string (S [UInt8.ofNat x.toNat, UInt8.ofNat y.toNat])) W := rfl
theorem run_str2 {P : Program} (src dst e : TypeId) (hs : P.underlying src = some (.slice e)) (he : P.underlying e = some (.int .u8)) (hd : P.underlying dst = some .string) (W : World) (n c : Nat) :
    (convert src dst (.slice (some ⟨n, 0, none⟩) 2 c)).run P W = conv2 P src dst W n c (W.cell? ⟨n, 0, none⟩) (W.cell? ⟨n, 1, none⟩) := by
  unfold conv2
  split
  · rename_i x y h0 h1
    refine run_convert_bytes_arg W src e hs he n 0 2 c [x, y] rfl (fun i hi => ?_) dst hd
    match i, hi with
    | 0, _ => exact h0
    | 1, _ => exact h1
  · rfl
/-- 'string(make([]byte, n))'. -/
theorem run_str_made {P : Program} (src dst e : TypeId) (hs : P.underlying src = some (.slice e)) (he : P.underlying e = some (.int .u8)) (hd : P.underlying dst = some .string) (w : World) (n c m : Nat) (hm : m = w.heap.size) :
    (convert src dst (.slice (some ⟨m, 0, none⟩) n c)).run P (w.alloc (.cells (madeCells #[.int .u8 0] n) e)) = .ok (.string (S (List.replicate n 0))) (w.alloc (.cells (madeCells #[.int .u8 0] n) e)) := by
  subst hm
  have h := run_convert_bytes_arg (P := P) (w.alloc (.cells (madeCells #[.int .u8 0] n) e)) src e hs he w.heap.size 0 n c (List.replicate n 0) (by simp) (fun i hi => ?_) dst hd
  · rw [h, strOfNums_S]; simp
  · rw [Nat.zero_add, cell_new]; simp [madeCells, hi, List.getD, Nat.mod_one]

theorem ofNat_mod (n : Nat) : UInt8.ofNat (n % 256) = UInt8.ofNat n := by apply UInt8.toNat_inj.1; simp
/-- The k least significant bytes of n, the least first. -/
def le (n k : Nat) : List UInt8 := (List.range k).map fun i => UInt8.ofNat (n / 256 ^ i % 256)
theorem le_zero (n : Nat) : le n 0 = [] := rfl
theorem le_succ (n k : Nat) : le n (k + 1) = le n k ++ [UInt8.ofNat (n / 256 ^ k % 256)] := by simp [le, List.range_succ]
@[simp, go_sem] theorem le_length (n k : Nat) : (le n k).length = k := by simp [le]
theorem div_pow_succ (n k : Nat) : n / 256 ^ (k + 1) = n / 256 ^ k / 256 := by rw [Nat.pow_succ, Nat.div_div_eq_div_mul]

end Go.Proofs.Ytblleinahlaohaa

namespace Go.Proofs.Ytblleinahlaohaa
open Go.RowKit

def SlAt {α : Type} (enc : α → List Value) (k : Nat) (w : World) (ao : Option Addr) (l : List α) : Prop :=
  l = [] ∨ ∃ b off, ao = some ⟨b, off, none⟩ ∧ b < w.heap.size ∧ ∀ (i : Nat) (hi : i < l.length) (j : Nat) (x : Value), (enc l[i])[j]? = some x → w.cell? ⟨b, off + i * k + j, none⟩ = some x

section
variable {α : Type} {enc : α → List Value} {k : Nat} {w : World} {ao : Option Addr} {l : List α}
theorem SlAt.nil (enc : α → List Value) (k : Nat) (w : World) (ao : Option Addr) : SlAt enc k w ao [] := Or.inl rfl
theorem SlAt.at (h : SlAt enc k w ao l) (hl : 0 < l.length) : ∃ b off, ao = some ⟨b, off, none⟩ ∧ b < w.heap.size ∧ ∀ (i : Nat) (hi : i < l.length) (j : Nat) (x : Value), (enc l[i])[j]? = some x → w.cell? ⟨b, off + i * k + j, none⟩ = some x := by
  rcases h with rfl | h
  · simp at hl
  · exact h
theorem SlAt.kept (h : SlAt enc k w ao l) {w' : World} {B : Nat} (hb : Below B w w') (hB : w.heap.size ≤ B) : SlAt enc k w' ao l := by
  rcases h with rfl | ⟨b, off, rfl, hlt, hc⟩
  · exact Or.inl rfl
  · exact Or.inr ⟨b, off, rfl, Nat.lt_of_lt_of_le hlt hb.size, fun i hi j x hx => (hb.cell (p := ⟨b, off + i * k + j, none⟩) (Nat.lt_of_lt_of_le hlt hB)).trans (hc i hi j x hx)⟩
theorem SlAt.keptAt (h : SlAt enc k w ao l) {w' : World} (hs : w.heap.size ≤ w'.heap.size) (hc : ∀ b o, b < w.heap.size → w'.cell? ⟨b, o, none⟩ = w.cell? ⟨b, o, none⟩) : SlAt enc k w' ao l := by
  rcases h with rfl | ⟨b, off, rfl, hlt, hcc⟩
  · exact Or.inl rfl
  · exact Or.inr ⟨b, off, rfl, Nat.lt_of_lt_of_le hlt hs, fun i hi j x hx => (hc b _ hlt).trans (hcc i hi j x hx)⟩
theorem SlAt.cut (h : SlAt enc k w ao l) (n : Nat) : SlAt enc k w ao (l.take n) := by
  rcases h with rfl | ⟨b, off, rfl, hlt, hc⟩
  · exact Or.inl (by simp)
  · refine Or.inr ⟨b, off, rfl, hlt, fun i hi j x hx => hc i (by simp at hi; omega) j x ?_⟩
    simpa using hx
theorem SlAt.drop (h : SlAt enc k w ao l) (n : Nat) (b off : Nat) (ha : ao = some ⟨b, off, none⟩) : SlAt enc k w (some ⟨b, off + n * k, none⟩) (l.drop n) := by
  rcases h with rfl | ⟨b', off', h', hlt, hc⟩
  · exact Or.inl (by simp)
  · rw [ha] at h'
    obtain ⟨rfl, rfl⟩ : b = b' ∧ off = off' := by simpa using h'
    refine Or.inr ⟨b, _, rfl, hlt, fun i hi j x hx => ?_⟩
    have hi' : n + i < l.length := by simp at hi; omega
    have := hc (n + i) hi' j x (by simpa using hx)
    rw [show off + n * k + i * k + j = off + (n + i) * k + j by rw [Nat.add_mul]; omega]
    exact this
/-- A row that was just laid. -/
theorem SlAt.new (w : World) (c : Array Value) (e : TypeId) (fz : Nat × Nat) (l : List α) (hlen : ∀ x ∈ l, (enc x).length = k) (hc : c.toList = l.flatMap enc) : SlAt enc k (w.alloc (.cells c e fz)) (some ⟨w.heap.size, 0, none⟩) l := by
  refine Or.inr ⟨w.heap.size, 0, rfl, by simp, fun i hi j x hx => ?_⟩
  rw [cell_new, ← Array.getElem?_toList, hc]
  have key : ∀ (l : List α) (i : Nat) (hi : i < l.length), (∀ x ∈ l, (enc x).length = k) → ∀ j x, (enc l[i])[j]? = some x → (l.flatMap enc)[0 + i * k + j]? = some x := by
    intro l
    induction l with
    | nil => intro i hi; simp at hi
    | cons a t ih =>
      intro i hi hlen j x hx
      have ha := hlen a (by simp)
      cases i with
      | zero =>
        simp only [List.flatMap_cons, Nat.zero_mul, Nat.zero_add]
        have hj : j < (enc a).length := (List.getElem?_eq_some_iff.1 hx).1
        rw [List.getElem?_append_left hj]
        exact hx
      | succ i =>
        simp only [List.flatMap_cons]
        rw [List.getElem?_append_right (by rw [ha, Nat.add_mul]; omega)]
        have := ih i (by simpa using hi) (fun x hx => hlen x (by simp [hx])) j x (by simpa using hx)
        rw [← this, ha]
        congr 1
        rw [Nat.add_mul]; omega
  exact key l i hi hlen j x hx
end

end Go.Proofs.Ytblleinahlaohaa

namespace Go.Proofs.Ytblleinahlaohaa
open Go.RowKit

section
variable {P : Program} (w : World)
/-- 'copy(d, s)' of elements of k cells, into a row that is known whole. -/
theorem run_copyK (dT sT ty elem : TypeId) (k g o dLen dCap : Nat) (a : Addr) (sLen sCap : Nat) (cur : Array Value) (t : TypeId) (cs : List Value) (m : Nat)
    (hu : P.underlying dT = some (.slice elem)) (hs : (P.info? elem).map (·.size) = some k)
    (hg : w.heap[g]? = some (.cells cur t (0, 0))) (hm : Nat.min sLen dLen = m) (hn : cs.length = m * k)
    (hsrc : ∀ j v, cs[j]? = some v → w.cell? (a.add j) = some v) (hfit : o + cs.length ≤ cur.size) (h1 : ∀ v ∈ cs, v.oneCell' = true) :
    (Builtin.copy_ #[dT, sT] ty #[.slice (some ⟨g, o, none⟩) dLen dCap, .slice (some a) sLen sCap]).run P w =
      .ok (goInt m) (w.setRow g (cur.toList.take o ++ cs ++ cur.toList.drop (o + cs.length)).toArray) := by
  have hst := run_storeCells_at P g o t cs 0 cur w hg (by simpa using hfit) h1
  cases hq : P.info? elem with
  | none => simp [hq] at hs
  | some i =>
    have hi : i.size = k := by simpa [hq] using hs
    have hf := run_firstCells_some (P := P) w k m a sLen sCap cs hn hsrc
    simp [Builtin.copy_, run_underlying hu, Builtin.lenOf, sizeOf, typeInfo, hq, hi, hm, hf, hst]
end

/-- The operation, where its run is known by an equation. -/
theorem wpList_copy_eq {P : Program} (w : World) {ops : Array Oper} {rest : List Oper} {o : Oper} {a : Act} {Q : Exit → Act → World → Prop} (hgd : o.guard = none) (d s : Operand) (t t' : TypeId)
    (ho : o.op = .call { callee := .builtin .copy, args := #[d, s], argTypes := #[t, t'] }) (v u : Value) (hd : a.eval d = v) (hs : a.eval s = u) {v' : Value} {w' : World}
    (hr : (Builtin.copy_ #[t, t'] o.type #[v, u]).run P w = .ok v' w') (h : wpList P ops Q rest (a.put o.dst v') w') : wpList P ops Q (o :: rest) a w := by
  refine wpList_plain hgd fun K hK => ?_
  unfold Oper.wp
  simp only [execOp, ho, resolve, invoke, builtin, Sem.run_bind, Sem.run_pure, Result.andThen_ok, List.map_toArray, List.map_cons, List.map_nil, hd, hs, hr]
  exact hK _ _ h
/-- .. and as one step of a region that draws. -/
theorem step_copy_eq {P : Program} {ops : Array Oper} {o : Oper} {a : Act} {w : World} {K : Act → World → Prop} {Q : Exit → Act → World → Prop} {E : Prop}
    (hg : o.guard = none) (d x : Operand) (dT sT : TypeId) (hop : o.op = Op.call { callee := Callee.builtin Builtin.copy, args := #[d, x], argTypes := #[dT, sT] })
    (v u : Value) (hd : a.eval d = v) (hx : a.eval x = u) {v' : Value} {w' : World} (hr : (Builtin.copy_ #[dT, sT] o.type #[v, u]).run P w = .ok v' w') (hK : K (a.put o.dst v') w') :
    if Region.wanted o (yielded ops a.tmps) = true then Oper.wp P o a w K Q else E := by
  have hw : Region.wanted o (yielded ops a.tmps) = true := by simp [Region.wanted, hg]
  rw [if_pos hw]
  unfold Oper.wp
  simp [execOp, hop, resolve, invoke, builtin, hd, hx, hr, Result.andThen]
  exact hK

/-- A row that is known whole: block g of elements of type E. -/
def RowIs (w : World) (E : TypeId) (g : Nat) (cur : List Value) : Prop := w.heap[g]? = some (.cells cur.toArray E (0, 0))
theorem RowIs.lt {w : World} {E : TypeId} {g : Nat} {cur : List Value} (h : RowIs w E g cur) : g < w.heap.size := (Array.getElem?_eq_some_iff.1 h).1
theorem RowIs.cell {w : World} {E : TypeId} {g : Nat} {cur : List Value} (h : RowIs w E g cur) (j : Nat) : w.cell? ⟨g, j, none⟩ = cur[j]? := by
  rw [cell_of_row w g j _ _ _ h, List.getElem?_toArray]
theorem RowIs.frozen {w : World} {E : TypeId} {g : Nat} {cur : List Value} (h : RowIs w E g cur) (j : Nat) : w.frozen? ⟨g, j, none⟩ = false := frozen_of_row w g j _ E h
theorem RowIs.set {w : World} {E : TypeId} {g : Nat} {cur : List Value} (h : RowIs w E g cur) (new : List Value) : RowIs (w.setRow g new.toArray) E g new := setRow_heap w g _ _ E _ h
theorem RowIs.drew {w : World} {E : TypeId} {g : Nat} {cur : List Value} (h : RowIs w E g cur) : RowIs w.drew E g cur := h
theorem RowIs.new (w : World) (E : TypeId) (cur : List Value) : RowIs (w.alloc (.cells cur.toArray E)) E w.heap.size cur := heap_alloc_new w _
theorem RowIs.alloc {w : World} {E : TypeId} {g : Nat} {cur : List Value} (h : RowIs w E g cur) (o : Obj) : RowIs (w.alloc o) E g cur := (heap_alloc_old w o h.lt).trans h
theorem RowIs.shape {w : World} {E : TypeId} {g : Nat} {cur : List Value} (h : RowIs w E g cur) : w.shape? g = some (E, cur.length) := by
  unfold World.shape?
  rw [show w.heap[g]? = _ from h]
  simp
theorem grown_setRow (w : World) (g : Nat) (new : Array Value) : w.grownBy (w.setRow g new) (some g) :=
  ⟨rfl, rfl, rfl, by simp [World.setRow], fun k _ hk => setRow_other w g k new (fun e => hk (by rw [e]))⟩
theorem World.grownBy.trans' {a b c : World} {r : Option Nat} (h : a.grownBy b r) (k : b.grownBy c r) : a.grownBy c r :=
  ⟨k.os.trans h.os, k.tape.trans h.tape, k.output.trans h.output, Nat.le_trans h.size k.size, fun i hi hr => (k.block i (Nat.lt_of_lt_of_le hi h.size) hr).trans (h.block i hi hr)⟩

theorem below_grown_new {w w1 : World} {o : Obj} {r : Option Nat} (h : (w.alloc o).grownBy w1 r) (hr : ∀ k, r = some k → w.heap.size ≤ k) : Below w.heap.size w w1 :=
  ⟨h.os, h.tape, h.output, Nat.le_trans (by simp) h.size, fun k hk => (h.block k (by simp; omega) (fun e => by have := hr k e.symm; omega)).trans (Below.heap_alloc _ _ _ hk)⟩
theorem below_grown {B : Nat} {w0 w w1 : World} {r : Option Nat} (hb : Below B w0 w) (h : w.grownBy w1 r) (hr : ∀ k, r = some k → B ≤ k) (hB : B ≤ w.heap.size) : Below B w0 w1 :=
  hb.trans ⟨h.os, h.tape, h.output, h.size, fun k hk => h.block k (by omega) (fun e => by have := hr k e.symm; omega)⟩
/-- A row of the call's own, opened: nil and nothing, or a block known whole. -/
theorem ownsRow_open {w : World} {B : Nat} {E : TypeId} {k : Nat} {v : Value} {n : Nat} {xs : List Value} (h : w.ownsRow B E k v n xs) :
    (v = .slice none 0 0 ∧ n = 0 ∧ xs = []) ∨ ∃ g cap cur, v = .slice (some ⟨g, 0, none⟩) n cap ∧ B ≤ g ∧ RowIs w E g cur ∧ n ≤ cap ∧ cap ≤ maxLen ∧ cur.length = cap * k ∧ cur.take (n * k) = xs := by
  obtain ⟨hl, ⟨rfl, rfl⟩ | ⟨g, cap, cur, rfl, h1, h2, h3, h4, h5, h6⟩⟩ := h
  · exact Or.inl ⟨rfl, rfl, List.eq_nil_of_length_eq_zero (by rw [hl]; omega)⟩
  · exact Or.inr ⟨g, cap, cur.toList, rfl, h1, by unfold RowIs; rw [h2, Array.toArray_toList], h3, h4, by simpa using h5, h6⟩
theorem ownsRow_shut {w : World} {B : Nat} {E : TypeId} {k g n cap : Nat} {cur xs : List Value} (h1 : B ≤ g) (h2 : RowIs w E g cur) (h3 : n ≤ cap) (h4 : cap ≤ maxLen) (h5 : cur.length = cap * k) (h6 : cur.take (n * k) = xs) :
    w.ownsRow B E k (.slice (some ⟨g, 0, none⟩) n cap) n xs := by
  refine ⟨?_, Or.inr ⟨g, cap, cur.toArray, rfl, h1, h2, h3, h4, by simpa using h5, by simpa using h6⟩⟩
  rw [← h6, List.length_take, h5]
  exact Nat.min_eq_left (Nat.mul_le_mul_right k h3)

theorem RowIs.kept {w w' : World} {E : TypeId} {g : Nat} {cur : List Value} {r : Option Nat} (h : RowIs w E g cur) (hg : w.grownBy w' r) (hne : some g ≠ r) : RowIs w' E g cur := (hg.block g h.lt hne).trans h
theorem RowIs.cells {w : World} {E : TypeId} {g : Nat} {cur : List Value} (h : RowIs w E g cur) (o : Nat) (cs : List Value) (hc : ∀ j v, cs[j]? = some v → cur[o + j]? = some v) : ∀ j v, cs[j]? = some v → w.cell? ((⟨g, o, none⟩ : Addr).add j) = some v := by
  intro j v hv
  rw [show (⟨g, o, none⟩ : Addr).add j = ⟨g, o + j, none⟩ by simp [Addr.add], h.cell]
  exact hc j v hv
/-- A row with some cells laid over it. -/
def over (cur : List Value) (o : Nat) (cs : List Value) : List Value := cur.take o ++ (cs ++ cur.drop (o + cs.length))

/-- 'copy(d, s)' at the operation. -/
theorem wpList_copyK {P : Program} (w : World) {ops : Array Oper} {rest : List Oper} {o : Oper} {a : Act} {Q : Exit → Act → World → Prop} (hgd : o.guard = none) (d s : Operand) (t t' : TypeId)
    (ho : o.op = .call { callee := .builtin .copy, args := #[d, s], argTypes := #[t, t'] }) (E : TypeId) (k : Nat) (hu : P.underlying t = some (.slice E)) (hs : (P.info? E).map (·.size) = some k)
    (g off dLen dCap : Nat) (ad : Addr) (sLen sCap : Nat) (hd : a.eval d = .slice (some ⟨g, off, none⟩) dLen dCap) (hsr : a.eval s = .slice (some ad) sLen sCap) (cur cs : List Value) (m : Nat)
    (hrow : RowIs w E g cur) (hm : Nat.min sLen dLen = m) (hn : cs.length = m * k) (hsrc : ∀ j v, cs[j]? = some v → w.cell? (ad.add j) = some v) (hfit : off + cs.length ≤ cur.length) (h1 : ∀ v ∈ cs, v.oneCell' = true)
    (h : ∀ w', RowIs w' E g (over cur off cs) → w.grownBy w' (some g) → wpList P ops Q rest (a.put o.dst (goInt m)) w') : wpList P ops Q (o :: rest) a w := by
  have hr := run_copyK (P := P) w t t' o.type E k g off dLen dCap ad sLen sCap cur.toArray E cs m hu hs hrow hm hn hsrc (by simpa using hfit) h1
  refine wpList_copy_eq w hgd d s t t' ho _ _ hd hsr hr (h _ ?_ (grown_setRow _ _ _))
  have := hrow.set (over cur off cs)
  simpa [over] using this
theorem step_copyK {P : Program} {ops : Array Oper} {o : Oper} {a : Act} {w : World} {K : Act → World → Prop} {Q : Exit → Act → World → Prop} {E0 : Prop}
    (hgd : o.guard = none) (d s : Operand) (t t' : TypeId) (ho : o.op = Op.call { callee := Callee.builtin Builtin.copy, args := #[d, s], argTypes := #[t, t'] }) (E : TypeId) (k : Nat) (hu : P.underlying t = some (.slice E)) (hs : (P.info? E).map (·.size) = some k)
    (g off dLen dCap : Nat) (ad : Addr) (sLen sCap : Nat) (hd : a.eval d = .slice (some ⟨g, off, none⟩) dLen dCap) (hsr : a.eval s = .slice (some ad) sLen sCap) (cur cs : List Value) (m : Nat)
    (hrow : RowIs w E g cur) (hm : Nat.min sLen dLen = m) (hn : cs.length = m * k) (hsrc : ∀ j v, cs[j]? = some v → w.cell? (ad.add j) = some v) (hfit : off + cs.length ≤ cur.length) (h1 : ∀ v ∈ cs, v.oneCell' = true)
    (h : ∀ w', RowIs w' E g (over cur off cs) → w.grownBy w' (some g) → K (a.put o.dst (goInt m)) w') :
    if Region.wanted o (yielded ops a.tmps) = true then Oper.wp P o a w K Q else E0 := by
  have hr := run_copyK (P := P) w t t' o.type E k g off dLen dCap ad sLen sCap cur.toArray E cs m hu hs hrow hm hn hsrc (by simpa using hfit) h1
  refine step_copy_eq hgd d s t t' ho _ _ hd hsr hr (h _ ?_ (grown_setRow _ _ _))
  have := hrow.set (over cur off cs)
  simpa [over] using this

theorem zeroCells_len (z : Array Value) (k : Nat) : (Builtin.zeroCells z k).size = k * z.size := by simp [Builtin.zeroCells]
/-- 'append(s, make([]T, m)...)' without room, at the operation. -/
theorem wpList_append_zeros {P : Program} (w : World) {ops : Array Oper} {rest : List Oper} {o : Oper} {a : Act} {Q : Exit → Act → World → Prop} (hgd : o.guard = none) (s x : Operand) (t tn : TypeId)
    (ho : o.op = .call { callee := .builtin .append, args := #[s, x], argTypes := #[t, tn] }) (E : TypeId) (i : TypeInfo) (z : Value) (k bytes : Nat) (ht : P.underlying t = some (.slice E)) (htn : P.underlying tn = some (.int .i64)) (hi : P.info? E = some i) (hz : i.zero = some z)
    (hk : i.size = k) (hby : i.bytes = bytes) (hzs : z.cells.size = k) (hk0 : 0 < k) (hb0 : bytes ≤ 1000) (b n cap : Nat) (cur : List Value) (hrow : RowIs w E b cur) (hs : a.eval s = .slice (some ⟨b, 0, none⟩) n cap) (m : Nat) (hx : a.eval x = .int .i64 (m : Int))
    (hfit : n * k ≤ cur.length) (hm : 0 < m) (hroom : cap < n + m) (tot : Nat) (htot : n + m = tot) (hsmall : n + m ≤ 4000000)
    (h : ∀ w' G zs, RowIs w' E w.heap.size (cur.take (n * k) ++ zs) → zs.length = (G - n) * k → tot ≤ G → G ≤ maxLen → w.grownBy w' none → wpList P ops Q rest (a.put o.dst (.slice (some ⟨w.heap.size, 0, none⟩) tot G)) w') :
    wpList P ops Q (o :: rest) a w := by
  subst hk hby htot
  have hold : (Builtin.firstCells i.size n (.slice (some ⟨b, 0, none⟩) n cap)).run P w.drew = .ok (cur.take (n * i.size)).toArray w.drew :=
    run_firstCells_some w.drew i.size n ⟨b, 0, none⟩ n cap (cur.take (n * i.size)) (by rw [List.length_take]; omega) (hrow.drew.cells 0 _ fun j v hv => by
      rw [List.getElem?_take] at hv
      split at hv
      · rw [Nat.zero_add]; exact hv
      · simp at hv)
  have hcap : Builtin.nextslicecap (n + m) cap * i.bytes ≤ 281474976710656 := growslice_fits hroom (by
    have : (n + m) * i.bytes ≤ 4000000 * 1000 := Nat.mul_le_mul hsmall hb0
    omega)
  have hr := Lib.run_append_grow_zeros (P := P) w t tn o.type E i z .i64 .i64 ht htn hi hz (some ⟨b, 0, none⟩) n cap (cur.take (n * i.size)) hold m hm hk0 hroom (by omega) (by
    have : m * i.bytes ≤ 4000000 * 1000 := Nat.mul_le_mul (by omega) hb0
    omega) hcap
  have hG := grownCap_ge w (n + m) cap E
  have hGm := grownCap_le_maxLen w (n + m) cap E (by unfold maxLen; omega)
  generalize grownCap w (n + m) cap E = G at *
  refine Lib.wpList_append_run w hgd s x t tn ho _ _ hs hx _ _ hr (h _ G ((Builtin.zeroCells z.cells m).toList ++ (Builtin.zeroCells z.cells (G - (n + m))).toList) ?_ ?_ hG hGm ⟨rfl, rfl, rfl, by simp [World.alloc], fun j hj _ => heap_alloc_old w.drew _ hj⟩)
  · have e : (cur.take (n * i.size)).toArray ++ Builtin.zeroCells z.cells m ++ Builtin.zeroCells z.cells (G - (n + m)) = (cur.take (n * i.size) ++ ((Builtin.zeroCells z.cells m).toList ++ (Builtin.zeroCells z.cells (G - (n + m))).toList)).toArray := by
      apply Array.ext'; simp
    rw [e]
    exact RowIs.new w.drew E _
  · rw [List.length_append, Array.length_toList, Array.length_toList, zeroCells_len, zeroCells_len, hzs, ← Nat.add_mul]
    congr 1; omega

theorem over_len {cur cs : List Value} {o : Nat} (h : o + cs.length ≤ cur.length) : (over cur o cs).length = cur.length := by simp [over]; omega
/-- Laid behind the first ones. -/
theorem over_behind (P Z cs : List Value) (o : Nat) (ho : P.length = o) : over (P ++ Z) o cs = P ++ (cs ++ Z.drop cs.length) := by
  subst ho
  simp [over, List.drop_append]
/-- Two laid one behind the other. -/
theorem over_two (P Z cs ds : List Value) (o m : Nat) (ho : P.length = o) (hm : o + cs.length = m) (n : Nat) (hn : m + ds.length = n) : (over (over (P ++ Z) o cs) m ds).take n = P ++ (cs ++ ds) := by
  rw [over_behind P Z cs o ho, ← List.append_assoc, over_behind (P ++ cs) _ ds m (by simp; omega), ← List.append_assoc, List.take_append_of_le_length (by simp; omega), List.take_of_length_le (by simp; omega)]
  simp
/-- Moved up, and one put into the gap. -/
theorem over_gap (P Q R X : List Value) (o m : Nat) (ho : P.length = o) (hm : o + X.length = m) (n : Nat) (hn : m + Q.length = n) (hR : X.length ≤ R.length) : (over (over (P ++ (Q ++ R)) m Q) o X).take n = P ++ (X ++ Q) := by
  have hT : ((P ++ (Q ++ R)).take m).length = m := by rw [List.length_take]; simp; omega
  have e1 : over (P ++ (Q ++ R)) m Q = (P ++ (Q ++ R)).take m ++ (Q ++ (P ++ (Q ++ R)).drop (m + Q.length)) := rfl
  have e2 : (P ++ (Q ++ R)).take m = P ++ (Q ++ R).take X.length := by rw [← hm, ← ho, List.take_length_add_append]
  rw [e1, e2, List.append_assoc, over_behind P _ X o ho, List.drop_append_of_le_length (by rw [List.length_take]; simp; omega), List.drop_eq_nil_of_le (by rw [List.length_take]; omega), List.nil_append]
  rw [← List.append_assoc X, ← List.append_assoc P, List.take_append_of_le_length (by simp; omega), List.take_of_length_le (by simp; omega)]

theorem grown_new {a b c : World} {r : Option Nat} {g : Nat} (h : a.grownBy b r) (k : b.grownBy c (some g)) (hg : a.heap.size ≤ g) : a.grownBy c r :=
  ⟨k.os.trans h.os, k.tape.trans h.tape, k.output.trans h.output, Nat.le_trans h.size k.size, fun i hi hr => (k.block i (Nat.lt_of_lt_of_le hi h.size) (fun e => by simp at e; omega)).trans (h.block i hi hr)⟩
theorem grown_drew {a b : World} {r : Option Nat} (h : a.grownBy b r) : a.grownBy b.drew r := ⟨h.os, h.tape, h.output, h.size, h.block⟩

theorem grown_undrew {a b : World} {r : Option Nat} (h : a.drew.grownBy b r) : a.grownBy b r := ⟨h.os, h.tape, h.output, h.size, h.block⟩
theorem grown_trans' {a b c : World} {r : Option Nat} (h : a.grownBy b r) (k : b.grownBy c r) : a.grownBy c r :=
  ⟨k.os.trans h.os, k.tape.trans h.tape, k.output.trans h.output, Nat.le_trans h.size k.size, fun i hi hr => (k.block i (Nat.lt_of_lt_of_le hi h.size) hr).trans (h.block i hi hr)⟩

/-- 'append(s, x...)' of a row of the call's own, as one step of a region that draws. -/
theorem step_append_own {P : Program} {ops : Array Oper} {o : Oper} {a : Act} {w : World} {K : Act → World → Prop} {Q : Exit → Act → World → Prop} {E0 : Prop} (hgd : o.guard = none) (s x : Operand) (t : TypeId)
    (ho : o.op = Op.call { callee := Callee.builtin Builtin.append, args := #[s, x], argTypes := #[t, t] })
    (base : Nat) (e : TypeId) (i : TypeInfo) (z : Value) (size bytes : Nat) (ht : P.underlying t = some (.slice e)) (hi : P.info? e = some i) (hz : i.zero = some z)
    (hsize : i.size = size) (hby : i.bytes = bytes) (hzs : z.cells.size = size) (hsz : 0 < size)
    (v : Value) (n : Nat) (xs : List Value) (hs : a.eval s = v) (hown : w.ownsRow base e size v n xs)
    (ad : Addr) (m c : Nat) (news : List Value) (hx : a.eval x = .slice (some ad) m c) (hl : news.length = m * size) (hnews : ∀ j u, news[j]? = some u → w.cell? (ad.add j) = some u) (h1 : ∀ u ∈ news, u.oneCell' = true)
    (h63 : n + m ≤ maxLen) (hbytes : (n + m) * bytes ≤ 140737488355328) (hbase : base ≤ w.heap.size)
    (h : ∀ v' w', w'.ownsRow base e size v' (n + m) (xs ++ news) → w.grownBy w' v.ownBlock → (v'.ownBlock = v.ownBlock ∨ v'.ownBlock = some w.heap.size) → K (a.put o.dst v') w') :
    if Region.wanted o (yielded ops a.tmps) = true then Oper.wp P o a w K Q else E0 := by
  have hw : Region.wanted o (yielded ops a.tmps) = true := by simp [Region.wanted, hgd]
  rw [if_pos hw]
  obtain ⟨v', w', hr, h2, h3, -, h5⟩ := run_append_own_at (P := P) w base t o.type e i z size bytes ht hi hz hsize hby hzs hsz v n xs hown ad m c news hl hnews h1 h63 hbytes hbase
  unfold Oper.wp
  simp only [execOp, ho, resolve, invoke, builtin, Sem.run_bind, Sem.run_pure, Result.andThen_ok, List.map_toArray, List.map_cons, List.map_nil, hs, hx, hr]
  exact h v' w' h2 h3 h5

theorem own_form {w : World} {B : Nat} {E : TypeId} {k : Nat} {v : Value} {n : Nat} {xs : List Value} (h : w.ownsRow B E k v n xs) : ∃ ao c, v = .slice ao n c := by
  rcases h.2 with ⟨e, hn⟩ | ⟨g, cap, cur, hv, _⟩
  · exact ⟨none, 0, by rw [e, hn]⟩
  · exact ⟨_, _, hv⟩

theorem below_drew' {B : Nat} {a w : World} (h : Below B a w) : Below B a w.drew := ⟨h.os, h.tape, h.output, h.size, h.block⟩

theorem own_base {w : World} {B B' : Nat} {E : TypeId} {k : Nat} {v : Value} {n : Nat} {xs : List Value} (h : w.ownsRow B E k v n xs) (hB : B' ≤ B) : w.ownsRow B' E k v n xs := by
  obtain ⟨hl, h1 | ⟨g, cap, cur, e, h2, h3⟩⟩ := h
  · exact ⟨hl, Or.inl h1⟩
  · exact ⟨hl, Or.inr ⟨g, cap, cur, e, Nat.le_trans hB h2, h3⟩⟩

theorem own_at {w : World} {B : Nat} {E : TypeId} {k : Nat} {ao : Option Addr} {n c : Nat} {xs : List Value} (h : w.ownsRow B E k (.slice ao n c) n xs) (hn : 0 < n) : ∃ g, ao = some ⟨g, 0, none⟩ ∧ B ≤ g ∧ g < w.heap.size ∧ ∀ j x, xs[j]? = some x → w.cell? ⟨g, j, none⟩ = some x := by
  rcases ownsRow_open h with ⟨_, h0, -⟩ | ⟨g, cap, cur, e, hB, hr, h3, -, h5, h6⟩
  · omega
  · simp only [Value.slice.injEq, true_and] at e
    refine ⟨g, e.1, hB, hr.lt, fun j x hx => ?_⟩
    rw [← h6, List.getElem?_take] at hx
    split at hx
    · rw [hr.cell]; exact hx
    · simp at hx

end Go.Proofs.Ytblleinahlaohaa

namespace Go.Proofs.Ytblleinahlaohaa
open Go.RowKit

theorem infoB : (Try.prog.info? 5).map (fun i => (i.zero, i.size, i.bytes)) = some (some (.int .u8 0), 1, 1) := by kernel_rfl
/-- Bytes, as cells. -/
def bytesV (l : List UInt8) : List Value := l.map fun b => .int .u8 b.toNat
theorem bytesV_len (l : List UInt8) : (bytesV l).length = l.length := by simp [bytesV]
theorem bytesV_append (a b : List UInt8) : bytesV (a ++ b) = bytesV a ++ bytesV b := by simp [bytesV]
theorem nil_string (w : World) : (convert 22 9 (.slice none 0 0)).run Try.prog w = .ok (.string (S [])) w := by kernel_rfl
theorem map_back (l : List UInt8) : (l.map fun b => (b.toNat : Int)).map (fun n : Int => UInt8.ofNat n.toNat) = l := by
  rw [List.map_map]
  conv => rhs; rw [← List.map_id l]
  exact List.map_congr_left fun b _ => by simp
/-- 'string(b)', b a row of the call's own. -/
theorem own_string {B n : Nat} {v : Value} {l : List UInt8} {w : World} (h : w.ownsRow B 5 1 v n (bytesV l)) : (convert 22 9 v).run Try.prog w = .ok (.string (S l)) w := by
  have hn := h.1
  rw [bytesV_len, Nat.mul_one] at hn
  subst hn
  rcases ownsRow_open h with ⟨rfl, h0, -⟩ | ⟨g, cap, cur, rfl, -, hr, h3, -, h5, h6⟩
  · obtain rfl := List.eq_nil_of_length_eq_zero h0
    exact nil_string w
  · have := run_convert_bytes_arg (P := Try.prog) w 22 5 Try.underlying22 Try.underlying5 g 0 l.length cap (l.map fun b => (b.toNat : Int)) (by simp) (fun i hi => by
      rw [Nat.zero_add, hr.cell]
      have e : (bytesV l)[i]? = some (.int .u8 (l[i].toNat)) := by simp [bytesV, hi]
      rw [← h6, List.getElem?_take, if_pos (by omega)] at e
      rw [e]; simp [hi]) 9 Try.underlying9
    rw [this, strOfNums_S, map_back]

/-- Widths, and numbers. -/
abbrev IntsW (w : World) (ao : Option Addr) (ps : List (Nat × Nat)) : Prop := SlAt (fun p : Nat × Nat => [Value.int .i64 p.1]) 1 w ao ps
abbrev NumsW (w : World) (ao : Option Addr) (ps : List (Nat × Nat)) : Prop := SlAt (fun p : Nat × Nat => [Value.int .u64 p.2]) 1 w ao ps
/-- Each is a width. -/
def Wide (ps : List (Nat × Nat)) : Prop := ∀ p ∈ ps, 1 ≤ p.1 ∧ p.1 ≤ 8
def sumW : List (Nat × Nat) → Nat
  | [] => 0
  | p :: r => p.1 + sumW r
theorem sumW_snoc (l : List (Nat × Nat)) (p : Nat × Nat) : sumW (l ++ [p]) = sumW l + p.1 := by
  induction l with
  | nil => simp [sumW]
  | cons q l ih => simp [sumW, ih]; omega
theorem sumW_le : ∀ {l : List (Nat × Nat)}, Wide l → l.length ≤ sumW l ∧ sumW l ≤ 8 * l.length
  | [], _ => by simp [sumW]
  | p :: r, h => by
    have h1 := h p (by simp)
    have h2 := sumW_le (l := r) fun q hq => h q (by simp [hq])
    simp only [sumW, List.length_cons]; omega
theorem Wide.take {l : List (Nat × Nat)} (h : Wide l) (n : Nat) : Wide (l.take n) := fun p hp => h p (List.mem_of_mem_take hp)

set_option maxHeartbeats 400000 in
theorem may_yes (n : Nat) (h1 : 1 ≤ n) (h2 : n ≤ 8) (w : World) : Calls Try.prog 39 #[.int .i64 n] w fun e w' => e = .returned (.bool true) ∧ w = w' := by
  have h1' : (1 : Int) ≤ (n : Int) := by omega
  have h2' : (n : Int) ≤ 8 := by omega
  go_enter Try.func39, Try.ntmps39
  go_wp2
  go_ret
  exact ⟨rfl, rfl⟩

set_option maxHeartbeats 1000000 in
theorem size_any (ao : Option Addr) (c : Nat) (ps : List (Nat × Nat)) (w : World) (hs : IntsW w ao ps) (hw : Wide ps) (hl : ps.length ≤ 1000) :
    Calls Try.prog 33 #[.slice ao ps.length c] w fun e w' => e = .returned (.int .i64 (sumW ps)) ∧ w = w' := by
  go_enter Try.func33, Try.ntmps33
  go_wp2_with fail
  go_loop [3, 8] (fun s i => ∃ k : Nat, i = .int .i64 k ∧ k ≤ ps.length ∧ s = .int .i64 (sumW (ps.take k))) (fun _ i => ps.length - (intOf i).toNat)
  case atStart => exact ⟨0, rfl, Nat.zero_le _, rfl⟩
  case round =>
    obtain ⟨k, rfl, hk, rfl⟩ := hrel
    have hk0 : (0 : Int) ≤ (k : Int) := by omega
    by_cases hkl : k < ps.length
    · have hk1 : (k : Int) < (ps.length : Int) := by omega
      obtain ⟨b, off, rfl, hb, hc⟩ := hs.at (by omega)
      have hck := hc k hkl 0 _ rfl
      rw [Nat.mul_one, Nat.add_zero] at hck
      have hp := hw _ (List.getElem_mem hkl)
      obtain ⟨hp1, hp2⟩ := hp
      have hsn := Lib.hid (show sumW (ps.take (k + 1)) = sumW (ps.take k) + ps[k].1 by rw [List.take_succ_eq_append_getElem hkl, sumW_snoc])
      have hsl := sumW_le (hw.take k)
      rw [List.length_take] at hsl
      obtain ⟨hsl1, hsl2⟩ := hsl
      have hsl3 : sumW (ps.take k) ≤ 8000 := by omega
      clear hc hsl1 hsl2
      generalize ps[k].1 = n at *
      generalize hsk : sumW (ps.take k) = s at *
      have hsk' := Lib.hid hsk
      clear hsk
      go_wp2_with (go_at_call 39; refine (may_yes _ hp1 hp2 _).mono ?_; rintro e w' ⟨rfl, rfl⟩)
      go_round
      case rel => exact ⟨k + 1, by go_num, by omega, by rw [hsn.out]; go_num⟩
      case measure => first | (simp [intOf]; done) | (simp [intOf]; omega)
    · obtain rfl : k = ps.length := by omega
      rw [List.take_length]
      go_wp2_with fail
      go_ret
      exact ⟨rfl, rfl⟩

set_option maxHeartbeats 400000 in
theorem right_any (ao : Option Addr) (c : Nat) (ps : List (Nat × Nat)) (w : World) (hs : IntsW w ao ps) (hw : Wide ps) (hl : ps.length ≤ 1000) :
    Calls Try.prog 32 #[.slice ao ps.length c] w fun e w' => e = .returned (.bool true) ∧ w = w' := by
  by_cases h0 : ps.length = 0
  · have h0' : ((ps.length : Int) == 0) = true := by simpa using h0
    clear h0
    go_enter Try.func32, Try.ntmps32
    go_wp2_with fail
    go_ret
    exact ⟨rfl, rfl⟩
  · have h0' : ((ps.length : Int) == 0) = false := by simpa using h0
    have hsl := sumW_le hw
    have hp : decide (0 < sumW ps) = true := by simp; omega
    clear hsl
    go_enter Try.func32, Try.ntmps32
    go_wp2_with (go_at_call 33; refine (size_any _ _ _ _ hs hw hl).mono ?_; rintro e w' ⟨rfl, rfl⟩)
    go_ret
    exact ⟨rfl, rfl⟩

/-- The text with its length ahead; the cut of such a one. -/
def splitL (s : List UInt8) : List UInt8 × List UInt8 × Bool :=
  match s with
  | [] => ([], [], false)
  | b :: r => if r.length < b.toNat then ([], [], false) else (r.take b.toNat, r.drop b.toNat, true)
def splitV (s : List UInt8) : Value := .tuple #[.string (S (splitL s).1), .string (S (splitL s).2.1), .bool (splitL s).2.2]

/-- Numbers as bytes. -/
def wtext (ps : List (Nat × Nat)) : List UInt8 := ps.flatMap fun p => le p.2 p.1
theorem wtext_snoc (l : List (Nat × Nat)) (p : Nat × Nat) : wtext (l ++ [p]) = wtext l ++ le p.2 p.1 := by simp [wtext]
theorem wtext_len (l : List (Nat × Nat)) : (wtext l).length = sumW l := by
  induction l with
  | nil => rfl
  | cons p l ih => simp only [wtext, List.flatMap_cons, List.length_append, le_length, sumW] at *; rw [ih]
/-- Each has room in its width. -/
def Fit (ps : List (Nat × Nat)) : Prop := ∀ p ∈ ps, p.2 < 256 ^ p.1
theorem pow_le8 {k : Nat} (h : k ≤ 8) : 256 ^ k ≤ 18446744073709551616 := Nat.le_trans (Nat.pow_le_pow_right (by decide) h) (by decide)

set_option maxRecDepth 100000 in
set_option maxHeartbeats 2000000 in
theorem write_fit (aw an : Option Addr) (cw cn : Nat) (ps : List (Nat × Nat)) (w : World) (hsw : IntsW w aw ps) (hsn : NumsW w an ps) (hw : Wide ps) (hf : Fit ps) (hl : ps.length ≤ 1000) :
    Calls Try.prog 24 #[.slice aw ps.length cw, .slice an ps.length cn] w fun e w' => e = .returned (.tuple #[.string (S (wtext ps)), .bool true]) ∧ Below w.heap.size w w' := by
  obtain ⟨i0, hi, hz0, hz1, hz2⟩ := info_parts infoB
  have hsl := sumW_le hw
  have hsum : sumW ps ≤ 8000 := by omega
  clear hsl
  have hfull := Lib.hid (wtext_len ps)
  go_enter Try.func24, Try.ntmps24
  go_wp2_with (first | (go_at_call 32; refine (right_any _ _ _ _ hsw hw hl).mono ?_; rintro e w' ⟨rfl, rfl⟩) | (go_at_call 33; refine (size_any _ _ _ _ hsw hw hl).mono ?_; rintro e w' ⟨rfl, rfl⟩) | (at_make; refine wpList_make_own _ rfl _ _ 22 rfl w.heap.size 5 i0 (.int .u8 0) 1 Try.underlying22 hi hz0 hz1 .i64 .i64 _ (sumW ps) rfl rfl rfl (by rw [hz2]; omega) (by unfold maxLen; omega) (Nat.le_refl _) ?_; intro w1 hown1 hg1; have hB1 : Below w.heap.size w w1 := ⟨hg1.os, hg1.tape, hg1.output, hg1.size, fun k hk => hg1.block k hk (by simp)⟩))
  go_loopw [6, 25] (fun v i wr => ∃ k : Nat, i = .int .i64 k ∧ k ≤ ps.length ∧ wr.ownsRow w.heap.size 5 1 v (wtext (ps.take k)).length (bytesV (wtext (ps.take k))) ∧ Below w.heap.size w wr) (fun _ i _ => ps.length - (intOf i).toNat)
  case atStart => exact ⟨0, rfl, Nat.zero_le _, hown1, hB1⟩
  case round =>
    obtain ⟨k, rfl, hk, hown, hB⟩ := hrel
    have hk0 : (0 : Int) ≤ (k : Int) := by omega
    by_cases hkl : k < ps.length
    · have hk1 : (k : Int) < (ps.length : Int) := by omega
      obtain ⟨bw, ow, rfl, hbw, hcw⟩ := hsw.at (by omega)
      obtain ⟨bn, on, rfl, hbn, hcn⟩ := hsn.at (by omega)
      have cw0 := (hB.cell (p := ⟨bw, ow + k * 1 + 0, none⟩) hbw).trans (hcw k hkl 0 _ rfl)
      have cn0 := (hB.cell (p := ⟨bn, on + k * 1 + 0, none⟩) hbn).trans (hcn k hkl 0 _ rfl)
      rw [Nat.mul_one, Nat.add_zero] at cw0 cn0
      obtain ⟨hm1, hm8⟩ := hw _ (List.getElem_mem hkl)
      have hnf := hf _ (List.getElem_mem hkl)
      have hsnoc := Lib.hid (show wtext (ps.take (k + 1)) = wtext (ps.take k) ++ le ps[k].2 ps[k].1 by rw [List.take_succ_eq_append_getElem hkl, wtext_snoc])
      have hacc : (wtext (ps.take k)).length ≤ 8000 := by
        rw [wtext_len]
        have := sumW_le (hw.take k)
        rw [List.length_take] at this; omega
      clear hcw hcn
      generalize ps[k].1 = m at *
      generalize ps[k].2 = n at *
      generalize wtext (ps.take k) = acc at *
      have hn64 : n < 18446744073709551616 := Nat.lt_of_lt_of_le hnf (pow_le8 hm8)
      have hnf' := Lib.hid hnf
      clear hnf
      have cn0' := cn0
      go_wp2_with fail
      go_loopw [6, 9, 35] (fun v x j wi => ∃ q : Nat, j = .int .i64 q ∧ q ≤ m ∧ x = .int .u64 (n / 256 ^ q : Nat) ∧ wi.ownsRow w.heap.size 5 1 v (acc ++ le n q).length (bytesV (acc ++ le n q)) ∧ Below w.heap.size w wi) (fun _ _ j _ => m - (intOf j).toNat)
      case atStart => exact ⟨0, rfl, Nat.zero_le _, by simp, by rw [le_zero, List.append_nil]; exact hown, hB⟩
      case round =>
        obtain ⟨q, rfl, hq, rfl, hownq, hBq⟩ := hrel
        have hd : n / 256 ^ q < 18446744073709551616 := Nat.lt_of_le_of_lt (Nat.div_le_self _ _) hn64
        have hq0 : (0 : Int) ≤ (q : Int) := by omega
        have hle := le_length n q
        have hlen : (acc ++ le n q).length = acc.length + q := by rw [List.length_append, hle]
        by_cases hqm : q < m
        · have hqm' : (q : Int) < (m : Int) := by omega
          have hls := Lib.hid (le_succ n q)
          have hds := Lib.hid (div_pow_succ n q)
          generalize n / 256 ^ q = x at *
          go_wp2_with (at_builtin; refine wpList_append_own_at _ rfl _ _ 22 rfl w.heap.size 5 i0 (.int .u8 0) 1 1 Try.underlying22 hi hz0 hz1 hz2 rfl (by decide) _ (acc ++ le n q).length _ rfl (hownq.alloc _) ⟨wr.heap.size, 0, none⟩ 1 1 _ rfl rfl (cell_one_new _ _ _) ?h1 (by rw [hlen]; unfold maxLen; omega) (by rw [hlen]; omega) (by have := hBq.size; simp; omega) ?_; (case h1 => (intro u hu; simp at hu; subst hu; rfl)); intro v' w3 hown' hgrow hnil hat)
          go_roundw
          case rel =>
            refine ⟨q + 1, by go_num, by omega, by rw [hds.out]; simp, ?_, below_grown (hBq.alloc hBq.size _) hgrow (fun k e => (hownq.lt k e).1) (by have := hBq.size; simp; omega)⟩
            rw [hls.out, ← List.append_assoc, bytesV_append, List.length_append, List.length_singleton]
            have e : bytesV [UInt8.ofNat (x % 256)] = [.int .u8 ((x : Int) % 256)] := by simp [bytesV]
            rw [e]
            exact hown'
          case measure => first | (simp [intOf]; done) | (simp [intOf]; omega)
        · obtain rfl : q = m := by omega
          have hz : n / 256 ^ q = 0 := Nat.div_eq_of_lt hnf'.out
          generalize n / 256 ^ q = x at *
          subst hz
          go_wp2_with fail
          go_roundw
          case rel => exact ⟨k + 1, by go_num, by omega, by rw [hsnoc.out]; exact hownq, hBq⟩
          case measure => first | (simp [intOf]; done) | (simp [intOf]; omega)
    · obtain rfl : k = ps.length := by omega
      rw [List.take_length] at hown
      have hstr := own_string hown
      clear hown
      go_wp2_with fail
      go_ret2
      exact ⟨rfl, hB⟩

end Go.Proofs.Ytblleinahlaohaa

namespace Go.Proofs.Ytblleinahlaohaa
open Go.RowKit

theorem infoN : (Try.prog.info? 50).map (fun i => (i.zero, i.size, i.bytes)) = some (some (.int .u64 0), 1, 8) := by kernel_rfl
def numsV (ps : List (Nat × Nat)) : List Value := ps.map fun p => .int .u64 p.2
theorem numsV_snoc (l : List (Nat × Nat)) (p : Nat × Nat) : numsV (l ++ [p]) = numsV l ++ [.int .u64 p.2] := by simp [numsV]
theorem numsV_len (l : List (Nat × Nat)) : (numsV l).length = l.length := by simp [numsV]
/-- A row of the call's own reads as numbers. -/
theorem nums_of_own {w : World} {B : Nat} {v : Value} {ps : List (Nat × Nat)} (h : w.ownsRow B 50 1 v ps.length (numsV ps)) : ∃ ao c, v = .slice ao ps.length c ∧ NumsW w ao ps := by
  rcases ownsRow_open h with ⟨rfl, h0, -⟩ | ⟨g, cap, cur, rfl, -, hr, h3, -, h5, h6⟩
  · obtain rfl := List.eq_nil_of_length_eq_zero h0
    exact ⟨none, 0, rfl, Or.inl rfl⟩
  · refine ⟨_, cap, rfl, Or.inr ⟨g, 0, rfl, hr.lt, fun i hi j x hx => ?_⟩⟩
    have hj : j = 0 := by
      have := (List.getElem?_eq_some_iff.1 hx).1
      simpa using this
    subst hj
    have e : (numsV ps)[i]? = some (.int .u64 ps[i].2) := by simp [numsV, hi]
    rw [← h6, List.getElem?_take, if_pos (by omega)] at e
    rw [hr.cell, show 0 + i * 1 + 0 = i by omega, e]
    simpa using hx

theorem pow256 (q : Nat) : 256 ^ q = 2 ^ (8 * q) := by rw [Nat.pow_mul]
theorem or_byte (n q : Nat) (hq : q < 8) : bits .or .u64 ((n % 256 ^ q : Nat) : Int) (IntKind.u64.wrap ((n : Int) / 256 ^ q % 256 * 2 ^ (8 * q))) = ((n % 256 ^ (q + 1) : Nat) : Int) := by
  have e : (n : Int) / 256 ^ q % 256 * 2 ^ (8 * q) = ((n / 256 ^ q % 256 * 2 ^ (8 * q) : Nat) : Int) := by simp
  have h1 : n / 256 ^ q % 256 < 256 := Nat.mod_lt _ (by decide)
  have h2 : 256 * 2 ^ (8 * q) ≤ 18446744073709551616 := by
    rw [← pow256, ← Nat.pow_succ']; exact pow_le8 hq
  have hb : n / 256 ^ q % 256 * 2 ^ (8 * q) < 18446744073709551616 := Nat.lt_of_lt_of_le (Nat.mul_lt_mul_of_pos_right h1 (Nat.two_pow_pos _)) h2
  have ha : n % 256 ^ q < 2 ^ (8 * q) := by rw [← pow256]; exact Nat.mod_lt _ (Nat.pow_pos (by decide))
  have ha' : n % 256 ^ q < 18446744073709551616 := Nat.lt_of_lt_of_le ha (by rw [← pow256]; exact pow_le8 (by omega))
  have hor : n % 256 ^ q ||| n / 256 ^ q % 256 * 2 ^ (8 * q) = n % 256 ^ (q + 1) := by
    rw [Nat.or_comm, Nat.mul_comm, ← Nat.two_pow_add_eq_or_of_lt ha, Nat.pow_succ, Nat.mod_mul, ← pow256, Nat.add_comm]
  rw [e, ← hor]
  generalize n / 256 ^ q % 256 * 2 ^ (8 * q) = y at *
  generalize n % 256 ^ q = x at *
  rw [IntKind.wrap_u64, Int.emod_eq_of_lt (Int.natCast_nonneg _) (by omega), u64_or_nat _ _ ha' hb]

set_option maxRecDepth 100000 in
set_option maxHeartbeats 2000000 in
theorem read_ok (aw : Option Addr) (cw : Nat) (ps : List (Nat × Nat)) (rest : List UInt8) (w : World) (hsw : IntsW w aw ps) (hw : Wide ps) (hf : Fit ps) (hl : ps.length ≤ 1000) (hr : rest.length ≤ 1000000) :
    Calls Try.prog 23 #[.slice aw ps.length cw, .string (S (wtext ps ++ rest))] w fun e w' => (∃ ao c, e = .returned (.tuple #[.slice ao ps.length c, .string (S rest), .bool true]) ∧ NumsW w' ao ps) ∧ Below w.heap.size w w' := by
  obtain ⟨i0, hi, hz0, hz1, hz2⟩ := info_parts infoN
  have hsl := sumW_le hw
  have hsum : sumW ps ≤ 8000 := by omega
  clear hsl
  have hlen : (wtext ps ++ rest).length = sumW ps + rest.length := by rw [List.length_append, wtext_len]
  have hge : ¬ ((sumW ps : Int) + (rest.length : Int) < (sumW ps : Int)) := by omega
  go_enter Try.func23, Try.ntmps23
  go_wp2_with (first | (go_at_call 32; refine (right_any _ _ _ _ hsw hw hl).mono ?_; rintro e w' ⟨rfl, rfl⟩) | (go_at_call 33; refine (size_any _ _ _ _ hsw hw hl).mono ?_; rintro e w' ⟨rfl, rfl⟩))
  clear hlen hge
  go_loopw [1, 7, 24] (fun s v i wr => ∃ k : Nat, i = .int .i64 k ∧ k ≤ ps.length ∧ s = .string (S (wtext (ps.drop k) ++ rest)) ∧ wr.ownsRow w.heap.size 50 1 v (ps.take k).length (numsV (ps.take k)) ∧ Below w.heap.size w wr) (fun _ _ i _ => ps.length - (intOf i).toNat)
  case atStart => exact ⟨0, rfl, Nat.zero_le _, rfl, World.ownsRow_nil _ _ _ _, Below.refl _ _⟩
  case round =>
    obtain ⟨k, rfl, hk, rfl, hown, hB⟩ := hrel
    have hk0 : (0 : Int) ≤ (k : Int) := by omega
    have hlt : (ps.take k).length = k := by rw [List.length_take]; omega
    by_cases hkl : k < ps.length
    · have hk1 : (k : Int) < (ps.length : Int) := by omega
      obtain ⟨bw, ow, rfl, hbw, hcw⟩ := hsw.at (by omega)
      have cw0 := (hB.cell (p := ⟨bw, ow + k * 1 + 0, none⟩) hbw).trans (hcw k hkl 0 _ rfl)
      rw [Nat.mul_one, Nat.add_zero] at cw0
      obtain ⟨hm1, hm8⟩ := hw _ (List.getElem_mem hkl)
      have hnf := hf _ (List.getElem_mem hkl)
      have hsnoc := Lib.hid (show numsV (ps.take (k + 1)) = numsV (ps.take k) ++ [.int .u64 ps[k].2] by rw [List.take_succ_eq_append_getElem hkl, numsV_snoc])
      have hdrop : wtext (ps.drop k) ++ rest = le ps[k].2 ps[k].1 ++ (wtext (ps.drop (k + 1)) ++ rest) := by
        rw [List.drop_eq_getElem_cons hkl, ← List.append_assoc]; rfl
      rw [hdrop]
      have htl : (wtext (ps.drop (k + 1)) ++ rest).length ≤ 1008000 := by
        rw [List.length_append, wtext_len]
        have := sumW_le (l := ps.drop (k + 1)) (fun p hp => hw p (List.mem_of_mem_drop hp))
        rw [List.length_drop] at this; omega
      clear hcw hdrop
      generalize ps[k].1 = m at *
      generalize ps[k].2 = n at *
      generalize htle : wtext (ps.drop (k + 1)) ++ rest = tl at *
      have htle' := Lib.hid htle
      have hn64 : n < 18446744073709551616 := Nat.lt_of_lt_of_le hnf (pow_le8 hm8)
      have hnf' := Lib.hid hnf
      have hle := le_length n m
      clear hnf htle
      have hsz : (le n m ++ tl).length = m + tl.length := by rw [List.length_append, hle]
      go_wp2_with fail
      go_loop [10, 29] (fun x j => ∃ q : Nat, j = .int .i64 q ∧ q ≤ m ∧ x = .int .u64 (n % 256 ^ q : Nat)) (fun _ j => m - (intOf j).toNat)
      case atStart => exact ⟨0, rfl, Nat.zero_le _, by simp [Nat.mod_one]⟩
      case round =>
        obtain ⟨q, rfl, hq, rfl⟩ := hrel
        have hq0 : (0 : Int) ≤ (q : Int) := by omega
        by_cases hqm : q < m
        · have hqm' : (q : Int) < (m : Int) := by omega
          have hq8 : q < 8 := by omega
          have hqs : (q : Int) < (m : Int) + (tl.length : Int) := by omega
          have hxl : n % 256 ^ q < 256 ^ q := Nat.mod_lt _ (Nat.pow_pos (by decide))
          have hbyte : (le n m ++ tl)[q]'(by omega) = UInt8.ofNat (n / 256 ^ q % 256) := by rw [List.getElem_append_left (by omega)]; simp [le]
          have hob := Lib.hid (or_byte n q hq8)
          generalize n % 256 ^ q = x at *
          go_wp2_with fail
          go_round
          case rel => exact ⟨q + 1, by go_num, by omega, by rw [hob.out]⟩
          case measure => first | (simp [intOf]; done) | (simp [intOf]; omega)
        · obtain rfl : q = m := by omega
          have hmod : n % 256 ^ q = n := Nat.mod_eq_of_lt hnf'.out
          rw [hmod]
          have hq1 : (q : Int) ≤ (q : Int) + (tl.length : Int) := by omega
          have hcut : Hid ((le n q ++ tl).drop q = tl) := Lib.hid (by rw [List.drop_append_of_le_length (by omega), List.drop_of_length_le (by omega), List.nil_append])
          clear hmod
          go_wp2_with fail
          rw [hlt] at hown
          obtain ⟨ao', c', e'⟩ := own_form hown
          subst e'
          go_region_law (refine step_append_own rfl _ _ 54 rfl w.heap.size 50 i0 (.int .u64 0) 1 8 Try.underlying54 hi hz0 hz1 hz2 rfl (by decide) (.slice ao' k c') k _ (by simp [Act.eval]) ((hown.alloc (.cells #[.int .u64 n] 50)).drew) ⟨wr.heap.size, 0, none⟩ 1 1 [.int .u64 n] (by simp [Act.eval]) rfl (cell_one_new _ _ _) (by intro u hu; simp at hu; subst hu; rfl) (by unfold maxLen; omega) (by omega) (by have := hB.size; simp; omega) ?_; intro v' w3 hown3 hg3 hat3)
          go_wp2_with fail
          go_roundw
          case rel =>
            refine ⟨k + 1, by go_num, by omega, ?_, ?_, ?_⟩
            · rw [htle'.out]
            · rw [hsnoc.out, List.length_take, Nat.min_eq_left (by omega)]
              exact hown3
            · exact below_grown (below_drew' (hB.alloc hB.size _)) hg3 (fun k e => (hown.lt k e).1) (by have := hB.size; simp; omega)
          case measure => first | (simp [intOf]; done) | (simp [intOf]; omega)
    · obtain rfl : k = ps.length := by omega
      rw [List.take_length] at hown
      obtain ⟨ao, c, rfl, hN⟩ := nums_of_own hown
      rw [List.drop_length]
      clear hown
      go_wp2_with fail
      go_ret3
      exact ⟨⟨ao, c, rfl, hN⟩, hB⟩

set_option maxHeartbeats 1000000 in
theorem read_short (aw : Option Addr) (cw : Nat) (ps : List (Nat × Nat)) (s : List UInt8) (w : World) (hsw : IntsW w aw ps) (hw : Wide ps) (hl : ps.length ≤ 1000) (hs : s.length < sumW ps) :
    Calls Try.prog 23 #[.slice aw ps.length cw, .string (S s)] w fun e w' => e = .returned (.tuple #[.slice none 0 0, .string (S []), .bool false]) ∧ w = w' := by
  have hlt : (s.length : Int) < (sumW ps : Int) := by omega
  go_enter Try.func23, Try.ntmps23
  go_wp2_with (first | (go_at_call 32; refine (right_any _ _ _ _ hsw hw hl).mono ?_; rintro e w' ⟨rfl, rfl⟩) | (go_at_call 33; refine (size_any _ _ _ _ hsw hw hl).mono ?_; rintro e w' ⟨rfl, rfl⟩))
  go_ret3
  exact ⟨rfl, rfl⟩

/-- The number of some bytes, the least significant ones first. -/
def numL : List UInt8 → Nat
  | [] => 0
  | b :: r => b.toNat + 256 * numL r
theorem numL_lt : ∀ l : List UInt8, numL l < 256 ^ l.length
  | [] => by simp [numL]
  | b :: r => by
    have h1 := numL_lt r
    have h2 := b.toNat_lt
    simp only [numL, List.length_cons, Nat.pow_succ]; omega
theorem le_cons (n k : Nat) : le n (k + 1) = UInt8.ofNat (n % 256) :: le (n / 256) k := by
  simp only [le, List.range_succ_eq_map, List.map_cons, List.map_map, Nat.pow_zero, Nat.div_one]
  congr 1
  refine List.map_congr_left fun i _ => ?_
  simp only [Function.comp, Nat.succ_eq_add_one]
  rw [Nat.pow_succ', ← Nat.div_div_eq_div_mul]
theorem le_numL : ∀ l : List UInt8, le (numL l) l.length = l
  | [] => rfl
  | b :: r => by
    have h2 := b.toNat_lt
    have e1 : (b.toNat + 256 * numL r) % 256 = b.toNat := by omega
    have e2 : (b.toNat + 256 * numL r) / 256 = numL r := by omega
    rw [List.length_cons, le_cons, numL, e1, e2, le_numL r]
    simp
theorem numL_le : ∀ (k n : Nat), numL (le n k) = n % 256 ^ k
  | 0, n => by simp [le, numL, Nat.mod_one]
  | k + 1, n => by
    rw [le_cons, numL, numL_le k, Nat.pow_succ', Nat.mod_mul]
    simp
/-- A text with enough bytes is numbers of some widths, and what is left. -/
theorem as_nums : ∀ (ws : List Nat) (s : List UInt8), ws.sum ≤ s.length → ∃ (ps : List (Nat × Nat)) (rest : List UInt8), ps.map Prod.fst = ws ∧ Fit ps ∧ s = wtext ps ++ rest
  | [], s, _ => ⟨[], s, rfl, fun p hp => by simp at hp, rfl⟩
  | m :: ws, s, h => by
    rw [List.sum_cons] at h
    obtain ⟨ps, rest, h1, h2, h3⟩ := as_nums ws (s.drop m) (by rw [List.length_drop]; omega)
    have hl : (s.take m).length = m := by rw [List.length_take]; omega
    refine ⟨(m, numL (s.take m)) :: ps, rest, by simp [h1], fun p hp => ?_, ?_⟩
    · rcases List.mem_cons.1 hp with rfl | hp
      · have := numL_lt (s.take m)
        rwa [hl] at this
      · exact h2 p hp
    · have e := le_numL (s.take m)
      rw [hl] at e
      show s = (le (numL (s.take m)) m ++ wtext ps) ++ rest
      rw [e, List.append_assoc, ← h3, List.take_append_drop]
theorem intsW_new (w : World) (c : Array Value) (e : TypeId) (fz : Nat × Nat) (ps : List (Nat × Nat)) (hc : c.toList = ps.map fun p => .int .i64 p.1) : IntsW (w.alloc (.cells c e fz)) (some ⟨w.heap.size, 0, none⟩) ps :=
  SlAt.new w c e fz ps (fun _ _ => rfl) (by rw [hc, List.map_eq_flatMap])
theorem numsW_new (w : World) (c : Array Value) (e : TypeId) (fz : Nat × Nat) (ps : List (Nat × Nat)) (hc : c.toList = ps.map fun p => .int .u64 p.2) : NumsW (w.alloc (.cells c e fz)) (some ⟨w.heap.size, 0, none⟩) ps :=
  SlAt.new w c e fz ps (fun _ _ => rfl) (by rw [hc, List.map_eq_flatMap])

theorem wide1 (m n : Nat) (h1 : 1 ≤ m) (h2 : m ≤ 8) : Wide [(m, n)] := by
  intro p hp
  simp only [List.mem_singleton] at hp
  subst hp
  exact ⟨h1, h2⟩
theorem as_num1 (m : Nat) (s : List UInt8) (h : m ≤ s.length) : ∃ (n : Nat) (rest : List UInt8), Fit [(m, n)] ∧ s = wtext [(m, n)] ++ rest := by
  have hl : (s.take m).length = m := by rw [List.length_take]; omega
  refine ⟨numL (s.take m), s.drop m, fun p hp => ?_, ?_⟩
  · simp only [List.mem_singleton] at hp
    subst hp
    have := numL_lt (s.take m)
    rwa [hl] at this
  · have e := le_numL (s.take m)
    rw [hl] at e
    simp only [wtext, List.flatMap_cons, List.flatMap_nil, List.append_nil]
    rw [e, List.take_append_drop]

end Go.Proofs.Ytblleinahlaohaa

namespace Go.Proofs.Ytblleinahlaohaa
open Go.RowKit
open Go.Maps (Keyed)

section
variable {H : Type} {P : Program} {k : TypeId} {w : World} {b n : Nat} {D : DataW H}

theorem plainElem_bool_inv {e : TypeId} (he : P.underlying e = some .bool) {v : Value} {z : DataW H × List MemPlace} (h : plainElem P e v = some z) : ∃ x, v = .bool x ∧ z = (.lit (.bool x), []) := by
  unfold plainElem at h
  rw [he] at h
  cases v <;> simp at h
  subst h
  exact ⟨_, rfl, rfl⟩

theorem lookup_bool {t e : TypeId} (h : w.ownsMap P k (plainElem P e) b n D) (K : Keyed P k) (ht : P.underlying t = some (.map k e)) (he : P.underlying e = some .bool) (hz : (zeroValue e).run P w = .ok (.bool false) w)
    {key : Value} {kl : Lit} (hkey : keyOf P k key = some kl) : ∃ c, (Instr.lookup t (.map (some b)) key false).run P w = .ok (.bool c) w ∧ D.atKey kl (.lit (.bool false)) = .lit (.bool c) := by
  obtain ⟨v, ps, hrun, hv⟩ := h.lookup K ht hz (plainElem_bool he false) hkey
  obtain ⟨c, rfl, hc⟩ := plainElem_bool_inv he hv
  simp only [Prod.mk.injEq] at hc
  exact ⟨c, hrun, hc.1⟩
end

/-- A set of keys, as a map to bools: block b of w. -/
structure SetAt (P : Program) (k e : TypeId) (w : World) (b n : Nat) (has : Lit → Bool) : Prop where
  own : ∃ D : DataW Unit, w.ownsMap P k (plainElem P e) b n D ∧ ∀ kl, WideAt.IsKeyLit kl → D.atKey kl (.lit (.bool false)) = .lit (.bool (has kl))

section
variable {P : Program} {k e : TypeId} {w : World} {b n : Nat} {has : Lit → Bool}
theorem SetAt.made (P : Program) (k e : TypeId) (w : World) : SetAt P k e (w.alloc (.map #[] 0)) w.heap.size 0 (fun _ => false) :=
  ⟨.map [], World.ownsMap_made _ _ _ _, fun _ _ => rfl⟩
theorem SetAt.lt (h : SetAt P k e w b n has) : b < w.heap.size := by obtain ⟨D, h, _⟩ := h; exact h.lt
theorem SetAt.kept {w' : World} {row : Option Nat} (h : SetAt P k e w b n has) (hg : w.grownBy w' row) (hne : some b ≠ row) : SetAt P k e w' b n has := by
  obtain ⟨D, h, hs⟩ := h
  exact ⟨D, h.kept hg hne, hs⟩
theorem SetAt.below {w' : World} (h : SetAt P k e w b n has) (hb : Below w.heap.size w w') : SetAt P k e w' b n has :=
  h.kept (row := none) ⟨hb.os, hb.tape, hb.output, hb.size, fun i hi _ => hb.block i hi⟩ (by simp)
theorem SetAt.drewN (h : SetAt P k e w b n has) (m : Nat) : SetAt P k e (w.drewN m) b n has := by
  obtain ⟨D, h, hs⟩ := h
  exact ⟨D, h, hs⟩
theorem SetAt.look {t : TypeId} (h : SetAt P k e w b n has) (K : Keyed P k) (ht : P.underlying t = some (.map k e)) (he : P.underlying e = some .bool) (hz : (zeroValue e).run P w = .ok (.bool false) w)
    {key : Value} {kl : Lit} (hkey : keyOf P k key = some kl) (hkl : WideAt.IsKeyLit kl) : (Instr.lookup t (.map (some b)) key false).run P w = .ok (.bool (has kl)) w := by
  obtain ⟨D, h, hs⟩ := h
  obtain ⟨c, hrun, hat⟩ := lookup_bool h K ht he hz hkey
  rw [hs kl hkl] at hat
  simp only [DataW.lit.injEq, Lit.bool.injEq] at hat
  rw [hrun, hat]
theorem SetAt.put {t : TypeId} (h : SetAt P k e w b n has) (K : Keyed P k) (ht : P.underlying t = some (.map k e)) (he : P.underlying e = some .bool) (hn : n < maxLen)
    {key : Value} {kl : Lit} (hkey : keyOf P k key = some kl) (hkl : WideAt.IsKeyLit kl) (x : Bool) (has' : Lit → Bool) (h1 : has' kl = x) (h2 : ∀ l, l ≠ kl → has' l = has l) : ∃ w', (Instr.mapUpdate t (.map (some b)) key (.bool x)).run P w = .ok () w' ∧ SetAt P k e w' b (n + 1) has' ∧ w.grownBy w' (some b) := by
  obtain ⟨D, h, hs⟩ := h
  obtain ⟨w', hrun, r1, r2⟩ := h.update K ht hn hkey (plainElem_bool he x)
  refine ⟨w', hrun, ⟨_, r1, fun l hl => ?_⟩, r2⟩
  by_cases e : l = kl
  · subst e
    rw [h1, Maps.atKey_put_same h.isMap hkl]
  · rw [h2 l e, Maps.atKey_put_other e, hs l hl]
end

/-- 'm[k] = v' at the operation. -/
theorem wpList_put_set {P : Program} (w : World) {ops : Array Oper} {rest : List Oper} {o : Oper} {a : Act} {Q : Exit → Act → World → Prop}
    (hg : o.guard = none) (m x v : Operand) (t : TypeId) (hop : o.op = Op.mapUpdate t m x v)
    (k e : TypeId) (K : Keyed P k) (ht : P.underlying t = some (.map k e)) (he : P.underlying e = some .bool) (b n : Nat) (has : Lit → Bool)
    (hm : a.eval m = .map (some b)) (hown : SetAt P k e w b n has) (hn : n < maxLen) (key : Value) (y : Bool) (kl : Lit) (hx : a.eval x = key) (hv : a.eval v = .bool y) (hkey : keyOf P k key = some kl) (hkl : WideAt.IsKeyLit kl) (has' : Lit → Bool) (h1 : has' kl = y) (h2 : ∀ l, l ≠ kl → has' l = has l)
    (hK : ∀ w', SetAt P k e w' b (n + 1) has' → w.grownBy w' (some b) → wpList P ops Q rest (a.put o.dst undef) w') :
    wpList P ops Q (o :: rest) a w := by
  refine wpList_plain hg fun K' hK' => ?_
  obtain ⟨w', hrun, r1, r2⟩ := hown.put K ht he hn hkey hkl y has' h1 h2
  unfold Oper.wp
  simp [execOp, hop, hm, hx, hv, hrun, Result.andThen]
  exact hK' _ _ (hK w' r1 r2)

end Go.Proofs.Ytblleinahlaohaa

namespace Go.Proofs.Ytblleinahlaohaa
open Go.RowKit

theorem own_below {w w' : World} {B : Nat} {E : TypeId} {k : Nat} {v : Value} {n : Nat} {xs : List Value} (h : w.ownsRow B E k v n xs) (hb : Below w.heap.size w w') : w'.ownsRow B E k v n xs :=
  h.kept (row := none) ⟨hb.os, hb.tape, hb.output, hb.size, fun i hi _ => hb.block i hi⟩ (by cases hv : v.ownBlock <;> simp)
theorem below_same {B : Nat} {w w' : World} (h : Below w.heap.size w w') (hB : B ≤ w.heap.size) : Below B w w' := h.mono hB
def bmax (a b : Int) : Int := if b > a then b else a
theorem run_bmax {P : Program} (ts : Array TypeId) (t : TypeId) (a b : Int) (w : World) : (Builtin.max_ ts t #[.int .i64 a, .int .i64 b]).run P w = .ok (.int .i64 (bmax a b)) w := by rw [run_max_int2]; rfl
theorem cell_drew {w : World} {a : Addr} {v : Value} (h : w.cell? a = some v) : w.drew.cell? a = some v := h
theorem frozen_drew {w : World} {a : Addr} {x : Bool} (h : w.frozen? a = x) : w.drew.frozen? a = x := h
theorem far_block {w : World} {b b' o o' : Nat} {v u : Value} (h : b ≠ b') (hc : w.cell? ⟨b, o, none⟩ = some v) : (w.setCell ⟨b', o', none⟩ u).cell? ⟨b, o, none⟩ = some v :=
  (World.cell?_of_block (Below.heap_setCell _ _ _ _ h)).trans hc
theorem cell_below {B : Nat} {w w' : World} (h : Below B w w') {b : Nat} (hb : b < B) (o : Nat) : w'.cell? ⟨b, o, none⟩ = w.cell? ⟨b, o, none⟩ := World.cell?_of_block (h.block b hb)
theorem kept_cell {w w' : World} {b o : Nat} {v : Value} (hb : Below w.heap.size w w') (h : w.cell? ⟨b, o, none⟩ = some v) : w'.cell? ⟨b, o, none⟩ = some v :=
  ((bcell hb).1 b o (World.block_lt_of_cell? w _ h)).trans h
theorem below_drewN {B : Nat} {a w : World} (h : Below B a w) (m : Nat) : Below B a (w.drewN m) := ⟨h.os, h.tape, h.output, h.size, h.block⟩
def tmin (a b : Int) : Int := if b < a then b else a
theorem run_tmin {P : Program} (ts : Array TypeId) (t : TypeId) (a b : Int) (w : World) : (Builtin.min_ ts t #[.int .i64 a, .int .i64 b]).run P w = .ok (.int .i64 (tmin a b)) w := by rw [run_min_int2]; rfl
theorem tmin_nat (a b : Nat) : tmin (a : Int) (b : Int) = ((min a b : Nat) : Int) := by unfold tmin; split <;> omega
theorem take_str (l : List UInt8) (n : Nat) (h : n ≤ l.length) (w : World) : (Instr.slice 9 (.string (S l)) none (some (.int .i64 (n : Int))) none).run Try.prog w = .ok (.string (S (l.take n))) w := by
  rw [run_slice_string_to_if (P := Try.prog) w 9 (S l) .i64 (n : Int) Try.underlying9]
  rw [if_pos (by rw [S_size]; omega)]
  simp [S_extract]

end Go.Proofs.Ytblleinahlaohaa

namespace Go.Proofs.Ytblleinahlaohaa
open Go.RowKit
attribute [local go_sem ↓] Go.wp_at_zero Go.wp_at_succ

/-- Is a key among them? -/
def inL (l : List Int) : Lit → Bool
  | .int .i64 x => decide (x ∈ l)
  | _ => false
theorem inL_nil : (fun _ : Lit => false) = inL [] := by
  funext l
  unfold inL
  split <;> simp
theorem inL_new (l : List Int) (x : Int) : inL (l ++ [x]) (.int .i64 x) = true := by simp [inL]
theorem inL_old (l : List Int) (x : Int) (y : Lit) (h : y ≠ .int .i64 x) : inL (l ++ [x]) y = inL l y := by
  unfold inL
  split
  · rename_i z
    have : z ≠ x := fun e => h (by rw [e])
    simp [this]
  · rfl
abbrev Keys (w : World) (b n : Nat) (l : List Int) : Prop := SetAt Try.prog 3 4 w b n (inL l)
theorem Keys.start (w : World) : Keys (w.alloc (.map #[] 0)) w.heap.size 0 [] := by
  have h := SetAt.made Try.prog 3 4 w
  rw [inL_nil] at h
  exact h
theorem zero_bool (w : World) : (zeroValue 4).run Try.prog w = .ok (.bool false) w := by kernel_rfl
theorem int_key {x : Int} (h0 : -9223372036854775808 ≤ x) (h1 : x ≤ 9223372036854775807) : keyOf Try.prog 3 (.int .i64 x) = some (.int .i64 x) := Maps.keyOf_int_mk Try.underlying3 (WalkArith.wf_i64 ⟨h0, h1⟩)
theorem Keys.look {w : World} {b n : Nat} {l : List Int} (h : Keys w b n l) (x : Int) (h0 : -9223372036854775808 ≤ x) (h1 : x ≤ 9223372036854775807) : (Instr.lookup 34 (.map (some b)) (.int .i64 x) false).run Try.prog w = .ok (.bool (decide (x ∈ l))) w :=
  SetAt.look h (Maps.int_keyed Try.underlying3) Try.underlying34 Try.underlying4 (zero_bool w) (int_key h0 h1) trivial

end Go.Proofs.Ytblleinahlaohaa
