/-
  Updates as cells, and their bytes.
-/
import Derived.Test.YtcjeonamebnpfaaSl
import Derived.Test.YtcjeonamebnpfaaRecL
namespace Go.Proofs.Ytcjeonamebnpfaa
open Go.RowKit

/-- An update's cells. -/
def Upd.cells (u : Upd) : List Value := [.int .u8 u.kind, .string (S u.key), .string (S u.val), .int .u64 u.delta]
/-- It is one that a variable may hold. -/
def Upd.Wf (u : Upd) : Prop := u.kind < 256 ∧ u.delta < 18446744073709551616
/-- Its bytes, if it may be. -/
def Upd.bytes (u : Upd) : List UInt8 :=
  [UInt8.ofNat u.kind, UInt8.ofNat u.key.length] ++ u.key ++ (if u.kind = 1 then [UInt8.ofNat u.val.length] ++ u.val else []) ++ (if u.kind = 3 then le u.delta 8 else [])
/-- The bytes of some, one behind the other, or none and the error of the first that may not be. -/
def textAcc : List UInt8 → List Upd → List UInt8 × Nat
  | acc, [] => (acc, 0)
  | acc, u :: r => if u.check = 0 then textAcc (acc ++ u.bytes) r else ([], u.check)

theorem updCells {w : World} {b off : Nat} {l : List Upd} (h : ∀ (i : Nat) (hi : i < l.length) (j : Nat) (x : Value), (Upd.cells l[i])[j]? = some x → w.cell? ⟨b, off + i * 4 + j, none⟩ = some x) (i : Nat) (hi : i < l.length) :
    w.cell? ⟨b, off + i * 4, none⟩ = some (.int .u8 l[i].kind) ∧ w.cell? ⟨b, off + i * 4 + 1, none⟩ = some (.string (S l[i].key)) ∧ w.cell? ⟨b, off + i * 4 + 2, none⟩ = some (.string (S l[i].val)) ∧ w.cell? ⟨b, off + i * 4 + 3, none⟩ = some (.int .u64 l[i].delta) :=
  ⟨h i hi 0 _ rfl, h i hi 1 _ rfl, h i hi 2 _ rfl, h i hi 3 _ rfl⟩

end Go.Proofs.Ytcjeonamebnpfaa
