/-
  A cursor and its source, as values and as memory.
-/
import Derived.Test.YthcjcmalfnfjkaaZa
namespace Go.Proofs.Ythcjcmalfnfjkaa
open Go.RowKit

theorem addr_ne {b o b' o' : Nat} (h : b ≠ b' ∨ o ≠ o') : (⟨b, o, none⟩ : Addr) ≠ ⟨b', o', none⟩ := fun e => by
  injection e with e1 e2
  omega
theorem kept_frozen {w w' : World} {b o o' : Nat} {v : Value} (hb : Below w.heap.size w w') (h : w.cell? ⟨b, o', none⟩ = some v) (hf : w.frozen? ⟨b, o, none⟩ = false) : w'.frozen? ⟨b, o, none⟩ = false :=
  ((bcell hb).2 b o (World.block_lt_of_cell? w _ h)).trans hf
def intsV (l : List Int) : List Value := l.map fun x => .int .i64 x
theorem intsV_snoc (l : List Int) (x : Int) : intsV (l ++ [x]) = intsV l ++ [.int .i64 x] := by simp [intsV]
theorem intsV_len (l : List Int) : (intsV l).length = l.length := by simp [intsV]
theorem own_kinds {w : World} {B B' : Nat} {E E' : TypeId} {k k' n n' : Nat} {v v' : Value} {xs xs' : List Value} (h : w.ownsRow B E k v n xs) (h' : w.ownsRow B' E' k' v' n' xs') (hne : E ≠ E') : v.ownBlock = none ∨ v.ownBlock ≠ v'.ownBlock := by
  rcases ownsRow_open h with ⟨rfl, -, -⟩ | ⟨g, cap, cur, rfl, -, hr, -⟩
  · exact Or.inl rfl
  · refine Or.inr fun e => ?_
    rcases ownsRow_open h' with ⟨rfl, -, -⟩ | ⟨g', cap', cur', rfl, -, hr', -⟩
    · simp [Value.ownBlock] at e
    · simp only [Value.ownBlock, Option.some.injEq] at e
      subst e
      have := hr.symm.trans hr'
      simp at this
      exact hne this.2

/-- From a key on, and below another one. -/
def withinE (lo hi : List UInt8) (e : Ent) : Bool := !(bl e.key lo) && (hi.isEmpty || bl e.key hi)
def scanL (L : List Ent) (lo hi : List UInt8) (most : Int) : List Ent := (L.filter (withinE lo hi)).take most.toNat
structure CurS where
  place : List UInt8
  high : List UInt8
  chunk : Nat
  left : List Ent
  over : Bool
/-- Something is left, if there is anything: the error, the asks, the cursor. -/
def fillS (L : List Ent) (fail : Int) (A : List Int) (C : CurS) : Nat × List Int × CurS :=
  if C.left ≠ [] ∨ C.over = true then (0, A, C)
  else if fail = (A.length : Int) + 1 then (10, A ++ [(C.chunk : Int)], C)
  else (0, A ++ [(C.chunk : Int)], { C with left := scanL L C.place C.high C.chunk, over := decide ((scanL L C.place C.high C.chunk).length < C.chunk) })
def popS (C : CurS) : Option Ent × CurS :=
  match C.left with
  | [] => (none, C)
  | x :: t => (some x, { C with left := t, place := x.key ++ [0] })
def nextS (L : List Ent) (fail : Int) (A : List Int) (C : CurS) : Option Ent × Nat × List Int × CurS :=
  let r := fillS L fail A C
  if r.1 = 0 then ((popS r.2.2).1, 0, r.2.1, (popS r.2.2).2) else (none, r.1, r.2.1, r.2.2)
def skipS (C : CurS) (key : List UInt8) : CurS := if bl C.place key = true then { C with place := key, over := false, left := [] } else C

/-- A list of entries that lies in a row of its own kind. -/
structure LeftAt (w : World) (B1 : Nat) (v : Value) (l : List Ent) : Prop where
  form : ∃ ao c, v = .slice ao l.length c ∧ l.length ≤ c ∧ (c : Int) ≤ 9223372036854775807 ∧ (l = [] ∨ ∃ b off cur, ao = some ⟨b, off, none⟩ ∧ B1 ≤ b ∧ RowIs w 55 b cur ∧ ∀ (i : Nat) (hi : i < l.length) (j : Nat) (x : Value), (Ent.cells l[i])[j]? = some x → cur[off + i * 2 + j]? = some x)
theorem LeftAt.nil (w : World) (B1 : Nat) : LeftAt w B1 (.slice none 0 0) [] := ⟨none, 0, rfl, Nat.le_refl _, by omega, Or.inl rfl⟩
/-- What a call on a cursor may write: its block, the source's, and the row of the asks. -/
structure Chg (p q : Nat) (va : Value) (w w' : World) : Prop where
  os : w'.os = w.os
  tape : w'.tape = w.tape
  output : w'.output = w.output
  size : w.heap.size ≤ w'.heap.size
  block : ∀ k, k < w.heap.size → k ≠ p → k ≠ q → va.ownBlock ≠ some k → w'.heap[k]? = w.heap[k]?
theorem Chg.refl (p q : Nat) (va : Value) (w : World) : Chg p q va w w := ⟨rfl, rfl, rfl, Nat.le_refl _, fun _ _ _ _ _ => rfl⟩
theorem Chg.of_below {p q : Nat} {va : Value} {w w' : World} (h : Below w.heap.size w w') : Chg p q va w w' := ⟨h.os, h.tape, h.output, h.size, fun k hk _ _ _ => h.block k hk⟩
theorem Chg.trans {p q : Nat} {va vb : Value} {a b c : World} (h : Chg p q va a b) (k : Chg p q vb b c) (hv : ∀ i, i < a.heap.size → vb.ownBlock = some i → va.ownBlock = some i) : Chg p q va a c :=
  ⟨k.os.trans h.os, k.tape.trans h.tape, k.output.trans h.output, Nat.le_trans h.size k.size, fun i hi h1 h2 h3 => (k.block i (Nat.lt_of_lt_of_le hi h.size) h1 h2 (fun e => h3 (hv i hi e))).trans (h.block i hi h1 h2 h3)⟩
theorem Chg.below {p q : Nat} {va : Value} {w0 w w' : World} {B : Nat} (h : Chg p q va w w') (hb : Below B w0 w) (hp : B ≤ p) (hq : B ≤ q) (hv : ∀ i, va.ownBlock = some i → B ≤ i) (hB : B ≤ w.heap.size) : Below B w0 w' :=
  ⟨h.os.trans hb.os, h.tape.trans hb.tape, h.output.trans hb.output, Nat.le_trans hb.size h.size, fun k hk => (h.block k (by omega) (by omega) (by omega) (fun e => by have := hv k e; omega)).trans (hb.block k hk)⟩
theorem Chg.cell {p q : Nat} {va : Value} {w w' : World} (h : Chg p q va w w') {b o : Nat} {v : Value} (hc : w.cell? ⟨b, o, none⟩ = some v) (h1 : b ≠ p) (h2 : b ≠ q) (h3 : va.ownBlock ≠ some b) : w'.cell? ⟨b, o, none⟩ = some v :=
  (World.cell?_of_block (h.block b (World.block_lt_of_cell? w _ hc) h1 h2 h3)).trans hc
theorem Chg.frozen {p q : Nat} {va : Value} {w w' : World} (h : Chg p q va w w') {b o o' : Nat} {v : Value} (hc : w.cell? ⟨b, o', none⟩ = some v) (hf : w.frozen? ⟨b, o, none⟩ = false) (h1 : b ≠ p) (h2 : b ≠ q) (h3 : va.ownBlock ≠ some b) : w'.frozen? ⟨b, o, none⟩ = false :=
  (World.frozen?_of_block (h.block b (World.block_lt_of_cell? w _ hc) h1 h2 h3)).trans hf

/-- The source. -/
structure ShAt (w : World) (B0 B1 q : Nat) (va : Value) (L : List Ent) (A : List Int) (fail : Int) : Prop where
  c0 : ∃ aL cL, w.cell? ⟨q, 0, none⟩ = some (.slice aL L.length cL) ∧ (L = [] ∨ ∃ b off, aL = some ⟨b, off, none⟩ ∧ b < B0 ∧ b ≠ q ∧ ∀ (i : Nat) (hi : i < L.length) (j : Nat) (x : Value), (Ent.cells L[i])[j]? = some x → w.cell? ⟨b, off + i * 2 + j, none⟩ = some x)
  c1 : w.cell? ⟨q, 1, none⟩ = some va
  c2 : w.cell? ⟨q, 2, none⟩ = some (.int .i64 fail)
  f1 : w.frozen? ⟨q, 1, none⟩ = false
  f2 : w.frozen? ⟨q, 2, none⟩ = false
  own : w.ownsRow B1 3 1 va A.length (intsV A)
  lt : q < B1
  le : B0 ≤ B1
/-- The cursor. -/
structure CuAt (w : World) (B0 B1 p q : Nat) (C : CurS) : Prop where
  c0 : w.cell? ⟨p, 0, none⟩ = some (.iface 63 (.pointer (some ⟨q, 0, none⟩)))
  c1 : w.cell? ⟨p, 1, none⟩ = some (.string (S C.place))
  c2 : w.cell? ⟨p, 2, none⟩ = some (.string (S C.high))
  c3 : w.cell? ⟨p, 3, none⟩ = some (.int .i64 C.chunk)
  c4 : ∃ v, w.cell? ⟨p, 4, none⟩ = some v ∧ LeftAt w B1 v C.left
  c5 : w.cell? ⟨p, 5, none⟩ = some (.bool C.over)
  f1 : w.frozen? ⟨p, 1, none⟩ = false
  f4 : w.frozen? ⟨p, 4, none⟩ = false
  f5 : w.frozen? ⟨p, 5, none⟩ = false
  lt : p < B1
  ne : p ≠ q
  ge : B0 ≤ p

end Go.Proofs.Ythcjcmalfnfjkaa
