/-
  No cell of these rows narrows 'for every input' (looked for: loops, veiled, ifaces, maps, wideKeys, modest, calm, conditions, laid).
  DERIVED. THE GIVEN ROWS OF THIS SEAT. 7 by the template 'for every input the law returns true; each argument reads behind the call as it read before'; 0 by the template 'total and deterministic' (their statements: YthcjcmalfnfjkaaTotals.lean).
  GIVEN WITH THE SEED: the statements are not yours to turn. If you find one false, say at which input.
  Laid BY PROGRAM, IN A SANDBOX (cutbox-rows.mjs): the forced cells as the released guide's own fill.sh prints them over the translation 6c5ca5fd31d0d518… (all of the seat's roots in one cut). By AI agents, Wed Nov 11 2026. No macro, syntax, notation, axiom, sorry.
-/
import Derived.Test.YthcjcmalfnfjkaaChecked
import GoSem.Claim
import GoSem.ClaimJoined
import GoSem.ClaimMapViews
import Derived.JoinedTies
import Derived.KernelRfl
namespace Go.Proofs.Ythcjcmalfnfjkaa
/- THE CELL 'sum', in the pinned program and in every row, IS THE sha256 OF THE DUMP (.gsa) THAT YthcjcmalfnfjkaaProg.lean LOADS. Nothing in Lean hashes anything: it is a label: what it is worth is what the hold of that sum in a sandbox is worth. -/
noncomputable def Try.pinned : Pinned := { name := "ythcjcmalfnfjkaa", sum := "6c5ca5fd31d0d518892986ea932858e656a903d277457b6e2bd339f093634f66", checked := Try.checked }
namespace Rows
def none {H : Type} : Left H := { results := [], args := [] }

/-- 'treenaillaw29.HistPlays': WHATEVER THE INPUT: true; the input reads as it did. -/
def histPlaysSpec : ChangeSpec := { name := "histPlays", fn := fun _ => fun
  | [d] => { results := [.lit (.bool true)], args := [d] }
  | _ => none }
def histPlaysRow : OpenClaim := { program := "ythcjcmalfnfjkaa", sum := "6c5ca5fd31d0d518892986ea932858e656a903d277457b6e2bd339f093634f66", func := "treenail/treenaillaw29.HistPlays", spec := "histPlays", inPlace := ["maps.clone"], unfollowed := true, recurses := true, apart := false }
def HistPlaysSaid : Prop := histPlaysRow.holds Try.pinned (OpenSpec.ofChange histPlaysSpec)

/-- ITS FALSE NEIGHBOUR: 'it returns false'. Refute it at one input. -/
def histPlaysWrong : ChangeSpec := { name := "histPlays", fn := fun _ => fun
  | [d] => { results := [.lit (.bool false)], args := [d] }
  | _ => none }
def HistPlaysWrongFalsely : Prop := histPlaysRow.holds Try.pinned (OpenSpec.ofChange histPlaysWrong)

/-- 'treenaillaw29.HistNone': WHATEVER THE INPUT: true; the input reads as it did. -/
def histNoneSpec : ChangeSpec := { name := "histNone", fn := fun _ => fun
  | [d] => { results := [.lit (.bool true)], args := [d] }
  | _ => none }
def histNoneRow : OpenClaim := { program := "ythcjcmalfnfjkaa", sum := "6c5ca5fd31d0d518892986ea932858e656a903d277457b6e2bd339f093634f66", func := "treenail/treenaillaw29.HistNone", spec := "histNone", inPlace := ["maps.clone"], unfollowed := true, recurses := true, apart := false }
def HistNoneSaid : Prop := histNoneRow.holds Try.pinned (OpenSpec.ofChange histNoneSpec)

/-- ITS FALSE NEIGHBOUR: 'it returns false'. Refute it at one input. -/
def histNoneWrong : ChangeSpec := { name := "histNone", fn := fun _ => fun
  | [d] => { results := [.lit (.bool false)], args := [d] }
  | _ => none }
def HistNoneWrongFalsely : Prop := histNoneRow.holds Try.pinned (OpenSpec.ofChange histNoneWrong)

/-- 'treenaillaw29.HistCuts': WHATEVER THE INPUT: true; the input reads as it did. -/
def histCutsSpec : ChangeSpec := { name := "histCuts", fn := fun _ => fun
  | [d1, d2] => { results := [.lit (.bool true)], args := [d1, d2] }
  | _ => none }
def histCutsRow : OpenClaim := { program := "ythcjcmalfnfjkaa", sum := "6c5ca5fd31d0d518892986ea932858e656a903d277457b6e2bd339f093634f66", func := "treenail/treenaillaw29.HistCuts", spec := "histCuts", inPlace := ["maps.clone"], unfollowed := true, recurses := true, apart := false }
def HistCutsSaid : Prop := histCutsRow.holds Try.pinned (OpenSpec.ofChange histCutsSpec)

/-- ITS FALSE NEIGHBOUR: 'it returns false'. Refute it at one input. -/
def histCutsWrong : ChangeSpec := { name := "histCuts", fn := fun _ => fun
  | [d1, d2] => { results := [.lit (.bool false)], args := [d1, d2] }
  | _ => none }
def HistCutsWrongFalsely : Prop := histCutsRow.holds Try.pinned (OpenSpec.ofChange histCutsWrong)

/-- 'treenaillaw22.SeekTells': WHATEVER THE INPUT: true; the input reads as it did. -/
def seekTellsSpec : ChangeSpec := { name := "seekTells", fn := fun _ => fun
  | [d1, d2, d3] => { results := [.lit (.bool true)], args := [d1, d2, d3] }
  | _ => none }
def seekTellsRow : OpenClaim := { program := "ythcjcmalfnfjkaa", sum := "6c5ca5fd31d0d518892986ea932858e656a903d277457b6e2bd339f093634f66", func := "treenail/treenaillaw22.SeekTells", spec := "seekTells", unfollowed := true, recurses := true, apart := false }
def SeekTellsSaid : Prop := seekTellsRow.holds Try.pinned (OpenSpec.ofChange seekTellsSpec)

/-- ITS FALSE NEIGHBOUR: 'it returns false'. Refute it at one input. -/
def seekTellsWrong : ChangeSpec := { name := "seekTells", fn := fun _ => fun
  | [d1, d2, d3] => { results := [.lit (.bool false)], args := [d1, d2, d3] }
  | _ => none }
def SeekTellsWrongFalsely : Prop := seekTellsRow.holds Try.pinned (OpenSpec.ofChange seekTellsWrong)

/-- 'treenaillaw22.SeekRest': WHATEVER THE INPUT: true; the input reads as it did. -/
def seekRestSpec : ChangeSpec := { name := "seekRest", fn := fun _ => fun
  | [d] => { results := [.lit (.bool true)], args := [d] }
  | _ => none }
def seekRestRow : OpenClaim := { program := "ythcjcmalfnfjkaa", sum := "6c5ca5fd31d0d518892986ea932858e656a903d277457b6e2bd339f093634f66", func := "treenail/treenaillaw22.SeekRest", spec := "seekRest", unfollowed := true, recurses := true, apart := false }
def SeekRestSaid : Prop := seekRestRow.holds Try.pinned (OpenSpec.ofChange seekRestSpec)

/-- ITS FALSE NEIGHBOUR: 'it returns false'. Refute it at one input. -/
def seekRestWrong : ChangeSpec := { name := "seekRest", fn := fun _ => fun
  | [d] => { results := [.lit (.bool false)], args := [d] }
  | _ => none }
def SeekRestWrongFalsely : Prop := seekRestRow.holds Try.pinned (OpenSpec.ofChange seekRestWrong)

/-- 'treenaillaw22.SeekSkips': WHATEVER THE INPUT: true; the input reads as it did. -/
def seekSkipsSpec : ChangeSpec := { name := "seekSkips", fn := fun _ => fun
  | [d1, d2, d3] => { results := [.lit (.bool true)], args := [d1, d2, d3] }
  | _ => none }
def seekSkipsRow : OpenClaim := { program := "ythcjcmalfnfjkaa", sum := "6c5ca5fd31d0d518892986ea932858e656a903d277457b6e2bd339f093634f66", func := "treenail/treenaillaw22.SeekSkips", spec := "seekSkips", unfollowed := true, recurses := true, apart := false }
def SeekSkipsSaid : Prop := seekSkipsRow.holds Try.pinned (OpenSpec.ofChange seekSkipsSpec)

/-- ITS FALSE NEIGHBOUR: 'it returns false'. Refute it at one input. -/
def seekSkipsWrong : ChangeSpec := { name := "seekSkips", fn := fun _ => fun
  | [d1, d2, d3] => { results := [.lit (.bool false)], args := [d1, d2, d3] }
  | _ => none }
def SeekSkipsWrongFalsely : Prop := seekSkipsRow.holds Try.pinned (OpenSpec.ofChange seekSkipsWrong)

/-- 'treenaillaw22.SeekFails': WHATEVER THE INPUT: true; the input reads as it did. -/
def seekFailsSpec : ChangeSpec := { name := "seekFails", fn := fun _ => fun
  | [d1, d2, d3] => { results := [.lit (.bool true)], args := [d1, d2, d3] }
  | _ => none }
def seekFailsRow : OpenClaim := { program := "ythcjcmalfnfjkaa", sum := "6c5ca5fd31d0d518892986ea932858e656a903d277457b6e2bd339f093634f66", func := "treenail/treenaillaw22.SeekFails", spec := "seekFails", unfollowed := true, recurses := true, apart := false }
def SeekFailsSaid : Prop := seekFailsRow.holds Try.pinned (OpenSpec.ofChange seekFailsSpec)

/-- ITS FALSE NEIGHBOUR: 'it returns false'. Refute it at one input. -/
def seekFailsWrong : ChangeSpec := { name := "seekFails", fn := fun _ => fun
  | [d1, d2, d3] => { results := [.lit (.bool false)], args := [d1, d2, d3] }
  | _ => none }
def SeekFailsWrongFalsely : Prop := seekFailsRow.holds Try.pinned (OpenSpec.ofChange seekFailsWrong)

/- THE SECOND FORM. 'bulk': how many values and letters a reading holds, each counted each time it is reached (what is shared counts as often as it is met; a slice's spare places count too). A statement '..UptoSaid' is the law's where the arguments, and the package variables that the reading takes, are together of bulk at most 1048576: NARROWER than '..Said'. Prove '..Said' where nothing that the law and all that it calls make is longer than what came in: it says more and counts as full. Else prove '..UptoSaid'. A law counts once. -/
mutual
def uptoBulk {H : Type} : DataW H → Nat
  | .lit (.string bytes) => bytes.length + 1
  | .lit _ => 1
  | .nil => 1
  | .ptr d => uptoBulk d + 1
  | .slice elems spare => uptoBulkAll elems + uptoBulkAll spare + 1
  | .agg parts => uptoBulkAll parts + 1
  | .iface _ d => uptoBulk d + 1
  | .map entries => uptoBulkEntries entries + 1
  | .held _ => 1
def uptoBulkAll {H : Type} : List (DataW H) → Nat
  | [] => 0
  | d :: r => uptoBulk d + uptoBulkAll r
def uptoBulkEntries {H : Type} : List (Lit × DataW H) → Nat
  | [] => 0
  | x :: r => uptoBulkEntry x + uptoBulkEntries r
def uptoBulkEntry {H : Type} : Lit × DataW H → Nat
  | (.string bytes, d) => bytes.length + uptoBulk d + 1
  | (_, d) => uptoBulk d + 1
 end
def uptoSmall : (H : Type) → List (DataW H) → Bool := fun _ ds => decide (uptoBulkAll ds ≤ 1048576)
def OpenSpec.upto (s : _root_.Go.ChangeSpec) : _root_.Go.OpenSpec := { _root_.Go.OpenSpec.ofChange s with cond := some uptoSmall }

/-- 'treenaillaw29.HistPlays', WHERE WHAT IT READS IS OF BULK AT MOST 1048576: true; the input reads as it did. -/
def histPlaysUptoRow : OpenClaim := { program := "ythcjcmalfnfjkaa", sum := "6c5ca5fd31d0d518892986ea932858e656a903d277457b6e2bd339f093634f66", func := "treenail/treenaillaw29.HistPlays", spec := "histPlays", inPlace := ["maps.clone"], unfollowed := true, recurses := true, apart := false, narrowed := true }
def HistPlaysUptoSaid : Prop := histPlaysUptoRow.holds Try.pinned (OpenSpec.upto histPlaysSpec)

/-- 'treenaillaw29.HistNone', WHERE WHAT IT READS IS OF BULK AT MOST 1048576: true; the input reads as it did. -/
def histNoneUptoRow : OpenClaim := { program := "ythcjcmalfnfjkaa", sum := "6c5ca5fd31d0d518892986ea932858e656a903d277457b6e2bd339f093634f66", func := "treenail/treenaillaw29.HistNone", spec := "histNone", inPlace := ["maps.clone"], unfollowed := true, recurses := true, apart := false, narrowed := true }
def HistNoneUptoSaid : Prop := histNoneUptoRow.holds Try.pinned (OpenSpec.upto histNoneSpec)

/-- 'treenaillaw29.HistCuts', WHERE WHAT IT READS IS OF BULK AT MOST 1048576: true; the input reads as it did. -/
def histCutsUptoRow : OpenClaim := { program := "ythcjcmalfnfjkaa", sum := "6c5ca5fd31d0d518892986ea932858e656a903d277457b6e2bd339f093634f66", func := "treenail/treenaillaw29.HistCuts", spec := "histCuts", inPlace := ["maps.clone"], unfollowed := true, recurses := true, apart := false, narrowed := true }
def HistCutsUptoSaid : Prop := histCutsUptoRow.holds Try.pinned (OpenSpec.upto histCutsSpec)

/-- 'treenaillaw22.SeekTells', WHERE WHAT IT READS IS OF BULK AT MOST 1048576: true; the input reads as it did. -/
def seekTellsUptoRow : OpenClaim := { program := "ythcjcmalfnfjkaa", sum := "6c5ca5fd31d0d518892986ea932858e656a903d277457b6e2bd339f093634f66", func := "treenail/treenaillaw22.SeekTells", spec := "seekTells", unfollowed := true, recurses := true, apart := false, narrowed := true }
def SeekTellsUptoSaid : Prop := seekTellsUptoRow.holds Try.pinned (OpenSpec.upto seekTellsSpec)

/-- 'treenaillaw22.SeekRest', WHERE WHAT IT READS IS OF BULK AT MOST 1048576: true; the input reads as it did. -/
def seekRestUptoRow : OpenClaim := { program := "ythcjcmalfnfjkaa", sum := "6c5ca5fd31d0d518892986ea932858e656a903d277457b6e2bd339f093634f66", func := "treenail/treenaillaw22.SeekRest", spec := "seekRest", unfollowed := true, recurses := true, apart := false, narrowed := true }
def SeekRestUptoSaid : Prop := seekRestUptoRow.holds Try.pinned (OpenSpec.upto seekRestSpec)

/-- 'treenaillaw22.SeekSkips', WHERE WHAT IT READS IS OF BULK AT MOST 1048576: true; the input reads as it did. -/
def seekSkipsUptoRow : OpenClaim := { program := "ythcjcmalfnfjkaa", sum := "6c5ca5fd31d0d518892986ea932858e656a903d277457b6e2bd339f093634f66", func := "treenail/treenaillaw22.SeekSkips", spec := "seekSkips", unfollowed := true, recurses := true, apart := false, narrowed := true }
def SeekSkipsUptoSaid : Prop := seekSkipsUptoRow.holds Try.pinned (OpenSpec.upto seekSkipsSpec)

/-- 'treenaillaw22.SeekFails', WHERE WHAT IT READS IS OF BULK AT MOST 1048576: true; the input reads as it did. -/
def seekFailsUptoRow : OpenClaim := { program := "ythcjcmalfnfjkaa", sum := "6c5ca5fd31d0d518892986ea932858e656a903d277457b6e2bd339f093634f66", func := "treenail/treenaillaw22.SeekFails", spec := "seekFails", unfollowed := true, recurses := true, apart := false, narrowed := true }
def SeekFailsUptoSaid : Prop := seekFailsUptoRow.holds Try.pinned (OpenSpec.upto seekFailsSpec)

end Rows
end Go.Proofs.Ythcjcmalfnfjkaa
