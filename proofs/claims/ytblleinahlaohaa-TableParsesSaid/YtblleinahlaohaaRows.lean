/-
  No cell of these rows narrows 'for every input' (looked for: loops, veiled, ifaces, maps, wideKeys, modest, calm, conditions, laid).
  DERIVED. THE GIVEN ROWS OF THIS SEAT. 4 by the template 'for every input the law returns true; each argument reads behind the call as it read before'; 0 by the template 'total and deterministic' (their statements: YtblleinahlaohaaTotals.lean).
  GIVEN WITH THE SEED: the statements are not yours to turn. If you find one false, say at which input.
  Laid BY PROGRAM, IN A SANDBOX (cutbox-rows.mjs): the forced cells as the released guide's own fill.sh prints them over the translation 27e1af45b1395062… (all of the seat's roots in one cut). By AI agents, Wed Nov 11 2026. No macro, syntax, notation, axiom, sorry.
-/
import Derived.Test.YtblleinahlaohaaChecked
import GoSem.Claim
import GoSem.ClaimJoined
import GoSem.ClaimMapViews
import Derived.JoinedTies
import Derived.KernelRfl
namespace Go.Proofs.Ytblleinahlaohaa
/- THE CELL 'sum', in the pinned program and in every row, IS THE sha256 OF THE DUMP (.gsa) THAT YtblleinahlaohaaProg.lean LOADS. Nothing in Lean hashes anything: it is a label: what it is worth is what the hold of that sum in a sandbox is worth. -/
noncomputable def Try.pinned : Pinned := { name := "ytblleinahlaohaa", sum := "27e1af45b13950626c3d2117a81aa03dd1457d30fa68486058e5ffe8d884b069", checked := Try.checked }
namespace Rows
def none {H : Type} : Left H := { results := [], args := [] }

/-- 'treenaillaw06.TableApart': WHATEVER THE INPUT: true; the input reads as it did. -/
def tableApartSpec : ChangeSpec := { name := "tableApart", fn := fun _ => fun
  | [d] => { results := [.lit (.bool true)], args := [d] }
  | _ => none }
def tableApartRow : OpenClaim := { program := "ytblleinahlaohaa", sum := "27e1af45b13950626c3d2117a81aa03dd1457d30fa68486058e5ffe8d884b069", func := "treenail/treenaillaw06.TableApart", spec := "tableApart", unfollowed := true, recurses := true, apart := false }
def TableApartSaid : Prop := tableApartRow.holds Try.pinned (OpenSpec.ofChange tableApartSpec)

/-- ITS FALSE NEIGHBOUR: 'it returns false'. Refute it at one input. -/
def tableApartWrong : ChangeSpec := { name := "tableApart", fn := fun _ => fun
  | [d] => { results := [.lit (.bool false)], args := [d] }
  | _ => none }
def TableApartWrongFalsely : Prop := tableApartRow.holds Try.pinned (OpenSpec.ofChange tableApartWrong)

/-- 'treenaillaw06.TableLast': WHATEVER THE INPUT: true; the input reads as it did. -/
def tableLastSpec : ChangeSpec := { name := "tableLast", fn := fun _ => fun
  | [d] => { results := [.lit (.bool true)], args := [d] }
  | _ => none }
def tableLastRow : OpenClaim := { program := "ytblleinahlaohaa", sum := "27e1af45b13950626c3d2117a81aa03dd1457d30fa68486058e5ffe8d884b069", func := "treenail/treenaillaw06.TableLast", spec := "tableLast", unfollowed := true, recurses := true, apart := false }
def TableLastSaid : Prop := tableLastRow.holds Try.pinned (OpenSpec.ofChange tableLastSpec)

/-- ITS FALSE NEIGHBOUR: 'it returns false'. Refute it at one input. -/
def tableLastWrong : ChangeSpec := { name := "tableLast", fn := fun _ => fun
  | [d] => { results := [.lit (.bool false)], args := [d] }
  | _ => none }
def TableLastWrongFalsely : Prop := tableLastRow.holds Try.pinned (OpenSpec.ofChange tableLastWrong)

/-- 'treenaillaw06.TableMoves': WHATEVER THE INPUT: true; the input reads as it did. -/
def tableMovesSpec : ChangeSpec := { name := "tableMoves", fn := fun _ => fun
  | [d1, d2, d3] => { results := [.lit (.bool true)], args := [d1, d2, d3] }
  | _ => none }
def tableMovesRow : OpenClaim := { program := "ytblleinahlaohaa", sum := "27e1af45b13950626c3d2117a81aa03dd1457d30fa68486058e5ffe8d884b069", func := "treenail/treenaillaw06.TableMoves", spec := "tableMoves", unfollowed := true, recurses := true, apart := false }
def TableMovesSaid : Prop := tableMovesRow.holds Try.pinned (OpenSpec.ofChange tableMovesSpec)

/-- ITS FALSE NEIGHBOUR: 'it returns false'. Refute it at one input. -/
def tableMovesWrong : ChangeSpec := { name := "tableMoves", fn := fun _ => fun
  | [d1, d2, d3] => { results := [.lit (.bool false)], args := [d1, d2, d3] }
  | _ => none }
def TableMovesWrongFalsely : Prop := tableMovesRow.holds Try.pinned (OpenSpec.ofChange tableMovesWrong)

/-- 'treenaillaw06.TableParses': WHATEVER THE INPUT: true; the input reads as it did. -/
def tableParsesSpec : ChangeSpec := { name := "tableParses", fn := fun _ => fun
  | [d1, d2, d3] => { results := [.lit (.bool true)], args := [d1, d2, d3] }
  | _ => none }
def tableParsesRow : OpenClaim := { program := "ytblleinahlaohaa", sum := "27e1af45b13950626c3d2117a81aa03dd1457d30fa68486058e5ffe8d884b069", func := "treenail/treenaillaw06.TableParses", spec := "tableParses", unfollowed := true, recurses := true, apart := false }
def TableParsesSaid : Prop := tableParsesRow.holds Try.pinned (OpenSpec.ofChange tableParsesSpec)

/-- ITS FALSE NEIGHBOUR: 'it returns false'. Refute it at one input. -/
def tableParsesWrong : ChangeSpec := { name := "tableParses", fn := fun _ => fun
  | [d1, d2, d3] => { results := [.lit (.bool false)], args := [d1, d2, d3] }
  | _ => none }
def TableParsesWrongFalsely : Prop := tableParsesRow.holds Try.pinned (OpenSpec.ofChange tableParsesWrong)

/- THE SECOND FORM. 'bulk': how many values and letters a reading holds, each counted each time it is reached (what is shared counts as often as it is met; a slice's spare places count too). A statement '..UptoSaid' is the law's where the arguments, and the package variables that the reading takes, are together of bulk at most 1048576: NARROWER than '..Said'. Prove '..Said' where nothing that the law and all that it calls make is longer than what came in: it says more and counts as full. Else prove '..UptoSaid'. A law counts once. -/
mutual
def uptoBulk {H : Type} : DataW H → Nat
  | .lit (.string bytes) => bytes.length + 1
  | .lit _ => 1
  | .nil => 1
  | .ptr d => uptoBulk d + 1
  | .slice elems spare => uptoBulkAll elems + uptoBulkAll spare + 1
  | .agg parts => uptoBulkAll parts + 1
  | .iface _ d => uptoBulk d + 1
  | .map entries => uptoBulkEntries entries + 1
  | .held _ => 1
def uptoBulkAll {H : Type} : List (DataW H) → Nat
  | [] => 0
  | d :: r => uptoBulk d + uptoBulkAll r
def uptoBulkEntries {H : Type} : List (Lit × DataW H) → Nat
  | [] => 0
  | x :: r => uptoBulkEntry x + uptoBulkEntries r
def uptoBulkEntry {H : Type} : Lit × DataW H → Nat
  | (.string bytes, d) => bytes.length + uptoBulk d + 1
  | (_, d) => uptoBulk d + 1
 end
def uptoSmall : (H : Type) → List (DataW H) → Bool := fun _ ds => decide (uptoBulkAll ds ≤ 1048576)
def OpenSpec.upto (s : _root_.Go.ChangeSpec) : _root_.Go.OpenSpec := { _root_.Go.OpenSpec.ofChange s with cond := some uptoSmall }

/-- 'treenaillaw06.TableApart', WHERE WHAT IT READS IS OF BULK AT MOST 1048576: true; the input reads as it did. -/
def tableApartUptoRow : OpenClaim := { program := "ytblleinahlaohaa", sum := "27e1af45b13950626c3d2117a81aa03dd1457d30fa68486058e5ffe8d884b069", func := "treenail/treenaillaw06.TableApart", spec := "tableApart", unfollowed := true, recurses := true, apart := false, narrowed := true }
def TableApartUptoSaid : Prop := tableApartUptoRow.holds Try.pinned (OpenSpec.upto tableApartSpec)

/-- 'treenaillaw06.TableLast', WHERE WHAT IT READS IS OF BULK AT MOST 1048576: true; the input reads as it did. -/
def tableLastUptoRow : OpenClaim := { program := "ytblleinahlaohaa", sum := "27e1af45b13950626c3d2117a81aa03dd1457d30fa68486058e5ffe8d884b069", func := "treenail/treenaillaw06.TableLast", spec := "tableLast", unfollowed := true, recurses := true, apart := false, narrowed := true }
def TableLastUptoSaid : Prop := tableLastUptoRow.holds Try.pinned (OpenSpec.upto tableLastSpec)

/-- 'treenaillaw06.TableMoves', WHERE WHAT IT READS IS OF BULK AT MOST 1048576: true; the input reads as it did. -/
def tableMovesUptoRow : OpenClaim := { program := "ytblleinahlaohaa", sum := "27e1af45b13950626c3d2117a81aa03dd1457d30fa68486058e5ffe8d884b069", func := "treenail/treenaillaw06.TableMoves", spec := "tableMoves", unfollowed := true, recurses := true, apart := false, narrowed := true }
def TableMovesUptoSaid : Prop := tableMovesUptoRow.holds Try.pinned (OpenSpec.upto tableMovesSpec)

/-- 'treenaillaw06.TableParses', WHERE WHAT IT READS IS OF BULK AT MOST 1048576: true; the input reads as it did. -/
def tableParsesUptoRow : OpenClaim := { program := "ytblleinahlaohaa", sum := "27e1af45b13950626c3d2117a81aa03dd1457d30fa68486058e5ffe8d884b069", func := "treenail/treenaillaw06.TableParses", spec := "tableParses", unfollowed := true, recurses := true, apart := false, narrowed := true }
def TableParsesUptoSaid : Prop := tableParsesUptoRow.holds Try.pinned (OpenSpec.upto tableParsesSpec)

end Rows
end Go.Proofs.Ytblleinahlaohaa
