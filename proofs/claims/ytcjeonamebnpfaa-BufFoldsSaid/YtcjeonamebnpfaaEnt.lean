/-
  Entries as cells, and their bytes.
-/
import Derived.Test.YtcjeonamebnpfaaSl
namespace Go.Proofs.Ytcjeonamebnpfaa
open Go.RowKit

structure Ent where
  key : List UInt8
  val : List UInt8

/-- An entry's cells. -/
def Ent.cells (u : Ent) : List Value := [.string (S u.key), .string (S u.val)]
/-- Its bytes. -/
def Ent.bytes (u : Ent) : List UInt8 := [UInt8.ofNat u.key.length] ++ u.key ++ [UInt8.ofNat u.val.length] ++ u.val
def entText (l : List Ent) : List UInt8 := l.flatMap Ent.bytes

theorem entCells {w : World} {b off : Nat} {l : List Ent} (h : ∀ (i : Nat) (hi : i < l.length) (j : Nat) (x : Value), (Ent.cells l[i])[j]? = some x → w.cell? ⟨b, off + i * 2 + j, none⟩ = some x) (i : Nat) (hi : i < l.length) :
    w.cell? ⟨b, off + i * 2, none⟩ = some (.string (S l[i].key)) ∧ w.cell? ⟨b, off + i * 2 + 1, none⟩ = some (.string (S l[i].val)) :=
  ⟨h i hi 0 _ rfl, h i hi 1 _ rfl⟩

end Go.Proofs.Ytcjeonamebnpfaa
