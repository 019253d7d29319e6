/-
  No cell of these rows narrows 'for every input' (looked for: loops, veiled, ifaces, maps, wideKeys, modest, calm, conditions, laid).
  DERIVED. THE GIVEN ROWS OF THIS SEAT. 8 by the template 'for every input the law returns true; each argument reads behind the call as it read before'; 0 by the template 'total and deterministic' (their statements: YtcjeonamebnpfaaTotals.lean).
  GIVEN WITH THE SEED: the statements are not yours to turn. If you find one false, say at which input.
  Laid BY PROGRAM, IN A SANDBOX (cutbox-rows.mjs): the forced cells as the released guide's own fill.sh prints them over the translation 15f1352df3cd7f60… (all of the seat's roots in one cut). By AI agents, Wed Nov 11 2026. No macro, syntax, notation, axiom, sorry.
-/
import Derived.Test.YtcjeonamebnpfaaChecked
import GoSem.Claim
import GoSem.ClaimJoined
import GoSem.ClaimMapViews
import Derived.JoinedTies
import Derived.KernelRfl
namespace Go.Proofs.Ytcjeonamebnpfaa
/- THE CELL 'sum', in the pinned program and in every row, IS THE sha256 OF THE DUMP (.gsa) THAT YtcjeonamebnpfaaProg.lean LOADS. Nothing in Lean hashes anything: it is a label: what it is worth is what the hold of that sum in a sandbox is worth. -/
noncomputable def Try.pinned : Pinned := { name := "ytcjeonamebnpfaa", sum := "15f1352df3cd7f60207eb56ccf8f02824a81f027898ecad22ccf4b63086ad6a2", checked := Try.checked }
namespace Rows
def none {H : Type} : Left H := { results := [], args := [] }

/-- 'treenaillaw15.BufOrder': WHATEVER THE INPUT: true; the input reads as it did. -/
def bufOrderSpec : ChangeSpec := { name := "bufOrder", fn := fun _ => fun
  | [d1, d2, d3] => { results := [.lit (.bool true)], args := [d1, d2, d3] }
  | _ => none }
def bufOrderRow : OpenClaim := { program := "ytcjeonamebnpfaa", sum := "15f1352df3cd7f60207eb56ccf8f02824a81f027898ecad22ccf4b63086ad6a2", func := "treenail/treenaillaw15.BufOrder", spec := "bufOrder", inPlace := ["slices.overlaps[treenail/rec.Update]"], unfollowed := true, recurses := true, apart := false }
def BufOrderSaid : Prop := bufOrderRow.holds Try.pinned (OpenSpec.ofChange bufOrderSpec)

/-- ITS FALSE NEIGHBOUR: 'it returns false'. Refute it at one input. -/
def bufOrderWrong : ChangeSpec := { name := "bufOrder", fn := fun _ => fun
  | [d1, d2, d3] => { results := [.lit (.bool false)], args := [d1, d2, d3] }
  | _ => none }
def BufOrderWrongFalsely : Prop := bufOrderRow.holds Try.pinned (OpenSpec.ofChange bufOrderWrong)

/-- 'treenaillaw16.LeafParts': WHATEVER THE INPUT: true; the input reads as it did. -/
def leafPartsSpec : ChangeSpec := { name := "leafParts", fn := fun _ => fun
  | [d1, d2] => { results := [.lit (.bool true)], args := [d1, d2] }
  | _ => none }
def leafPartsRow : OpenClaim := { program := "ytcjeonamebnpfaa", sum := "15f1352df3cd7f60207eb56ccf8f02824a81f027898ecad22ccf4b63086ad6a2", func := "treenail/treenaillaw16.LeafParts", spec := "leafParts", inPlace := ["slices.overlaps[treenail/leaf.Entry]"], unfollowed := true, recurses := true, apart := false }
def LeafPartsSaid : Prop := leafPartsRow.holds Try.pinned (OpenSpec.ofChange leafPartsSpec)

/-- ITS FALSE NEIGHBOUR: 'it returns false'. Refute it at one input. -/
def leafPartsWrong : ChangeSpec := { name := "leafParts", fn := fun _ => fun
  | [d1, d2] => { results := [.lit (.bool false)], args := [d1, d2] }
  | _ => none }
def LeafPartsWrongFalsely : Prop := leafPartsRow.holds Try.pinned (OpenSpec.ofChange leafPartsWrong)

/-- 'treenaillaw16.LeafOrder': WHATEVER THE INPUT: true; the input reads as it did. -/
def leafOrderSpec : ChangeSpec := { name := "leafOrder", fn := fun _ => fun
  | [d1, d2] => { results := [.lit (.bool true)], args := [d1, d2] }
  | _ => none }
def leafOrderRow : OpenClaim := { program := "ytcjeonamebnpfaa", sum := "15f1352df3cd7f60207eb56ccf8f02824a81f027898ecad22ccf4b63086ad6a2", func := "treenail/treenaillaw16.LeafOrder", spec := "leafOrder", inPlace := ["slices.overlaps[treenail/leaf.Entry]"], unfollowed := true, recurses := true, apart := false }
def LeafOrderSaid : Prop := leafOrderRow.holds Try.pinned (OpenSpec.ofChange leafOrderSpec)

/-- ITS FALSE NEIGHBOUR: 'it returns false'. Refute it at one input. -/
def leafOrderWrong : ChangeSpec := { name := "leafOrder", fn := fun _ => fun
  | [d1, d2] => { results := [.lit (.bool false)], args := [d1, d2] }
  | _ => none }
def LeafOrderWrongFalsely : Prop := leafOrderRow.holds Try.pinned (OpenSpec.ofChange leafOrderWrong)

/-- 'treenaillaw15.BufFolds': WHATEVER THE INPUT: true; the input reads as it did. -/
def bufFoldsSpec : ChangeSpec := { name := "bufFolds", fn := fun _ => fun
  | [d] => { results := [.lit (.bool true)], args := [d] }
  | _ => none }
def bufFoldsRow : OpenClaim := { program := "ytcjeonamebnpfaa", sum := "15f1352df3cd7f60207eb56ccf8f02824a81f027898ecad22ccf4b63086ad6a2", func := "treenail/treenaillaw15.BufFolds", spec := "bufFolds", inPlace := ["slices.overlaps[treenail/rec.Update]"], unfollowed := true, recurses := true, apart := false }
def BufFoldsSaid : Prop := bufFoldsRow.holds Try.pinned (OpenSpec.ofChange bufFoldsSpec)

/-- ITS FALSE NEIGHBOUR: 'it returns false'. Refute it at one input. -/
def bufFoldsWrong : ChangeSpec := { name := "bufFolds", fn := fun _ => fun
  | [d] => { results := [.lit (.bool false)], args := [d] }
  | _ => none }
def BufFoldsWrongFalsely : Prop := bufFoldsRow.holds Try.pinned (OpenSpec.ofChange bufFoldsWrong)

/-- 'treenaillaw16.LeafParses': WHATEVER THE INPUT: true; the input reads as it did. -/
def leafParsesSpec : ChangeSpec := { name := "leafParses", fn := fun _ => fun
  | [d1, d2, d3] => { results := [.lit (.bool true)], args := [d1, d2, d3] }
  | _ => none }
def leafParsesRow : OpenClaim := { program := "ytcjeonamebnpfaa", sum := "15f1352df3cd7f60207eb56ccf8f02824a81f027898ecad22ccf4b63086ad6a2", func := "treenail/treenaillaw16.LeafParses", spec := "leafParses", inPlace := ["slices.overlaps[treenail/leaf.Entry]"], unfollowed := true, recurses := true, apart := false }
def LeafParsesSaid : Prop := leafParsesRow.holds Try.pinned (OpenSpec.ofChange leafParsesSpec)

/-- ITS FALSE NEIGHBOUR: 'it returns false'. Refute it at one input. -/
def leafParsesWrong : ChangeSpec := { name := "leafParses", fn := fun _ => fun
  | [d1, d2, d3] => { results := [.lit (.bool false)], args := [d1, d2, d3] }
  | _ => none }
def LeafParsesWrongFalsely : Prop := leafParsesRow.holds Try.pinned (OpenSpec.ofChange leafParsesWrong)

/-- 'treenaillaw16.LeafPlays': WHATEVER THE INPUT: true; the input reads as it did. -/
def leafPlaysSpec : ChangeSpec := { name := "leafPlays", fn := fun _ => fun
  | [d1, d2] => { results := [.lit (.bool true)], args := [d1, d2] }
  | _ => none }
def leafPlaysRow : OpenClaim := { program := "ytcjeonamebnpfaa", sum := "15f1352df3cd7f60207eb56ccf8f02824a81f027898ecad22ccf4b63086ad6a2", func := "treenail/treenaillaw16.LeafPlays", spec := "leafPlays", inPlace := ["slices.overlaps[treenail/leaf.Entry]", "internal/abi.NoEscape"], unfollowed := true, recurses := true, apart := false }
def LeafPlaysSaid : Prop := leafPlaysRow.holds Try.pinned (OpenSpec.ofChange leafPlaysSpec)

/-- ITS FALSE NEIGHBOUR: 'it returns false'. Refute it at one input. -/
def leafPlaysWrong : ChangeSpec := { name := "leafPlays", fn := fun _ => fun
  | [d1, d2] => { results := [.lit (.bool false)], args := [d1, d2] }
  | _ => none }
def LeafPlaysWrongFalsely : Prop := leafPlaysRow.holds Try.pinned (OpenSpec.ofChange leafPlaysWrong)

/-- 'treenaillaw15.BufPlays': WHATEVER THE INPUT: true; the input reads as it did. -/
def bufPlaysSpec : ChangeSpec := { name := "bufPlays", fn := fun _ => fun
  | [d1, d2, d3] => { results := [.lit (.bool true)], args := [d1, d2, d3] }
  | _ => none }
def bufPlaysRow : OpenClaim := { program := "ytcjeonamebnpfaa", sum := "15f1352df3cd7f60207eb56ccf8f02824a81f027898ecad22ccf4b63086ad6a2", func := "treenail/treenaillaw15.BufPlays", spec := "bufPlays", inPlace := ["slices.overlaps[treenail/rec.Update]", "internal/abi.NoEscape"], unfollowed := true, recurses := true, apart := false }
def BufPlaysSaid : Prop := bufPlaysRow.holds Try.pinned (OpenSpec.ofChange bufPlaysSpec)

/-- ITS FALSE NEIGHBOUR: 'it returns false'. Refute it at one input. -/
def bufPlaysWrong : ChangeSpec := { name := "bufPlays", fn := fun _ => fun
  | [d1, d2, d3] => { results := [.lit (.bool false)], args := [d1, d2, d3] }
  | _ => none }
def BufPlaysWrongFalsely : Prop := bufPlaysRow.holds Try.pinned (OpenSpec.ofChange bufPlaysWrong)

/-- 'treenaillaw15.BufParses': WHATEVER THE INPUT: true; the input reads as it did. -/
def bufParsesSpec : ChangeSpec := { name := "bufParses", fn := fun _ => fun
  | [d1, d2, d3] => { results := [.lit (.bool true)], args := [d1, d2, d3] }
  | _ => none }
def bufParsesRow : OpenClaim := { program := "ytcjeonamebnpfaa", sum := "15f1352df3cd7f60207eb56ccf8f02824a81f027898ecad22ccf4b63086ad6a2", func := "treenail/treenaillaw15.BufParses", spec := "bufParses", inPlace := ["slices.overlaps[treenail/rec.Update]"], unfollowed := true, recurses := true, apart := false }
def BufParsesSaid : Prop := bufParsesRow.holds Try.pinned (OpenSpec.ofChange bufParsesSpec)

/-- ITS FALSE NEIGHBOUR: 'it returns false'. Refute it at one input. -/
def bufParsesWrong : ChangeSpec := { name := "bufParses", fn := fun _ => fun
  | [d1, d2, d3] => { results := [.lit (.bool false)], args := [d1, d2, d3] }
  | _ => none }
def BufParsesWrongFalsely : Prop := bufParsesRow.holds Try.pinned (OpenSpec.ofChange bufParsesWrong)

/- THE SECOND FORM. 'bulk': how many values and letters a reading holds, each counted each time it is reached (what is shared counts as often as it is met; a slice's spare places count too). A statement '..UptoSaid' is the law's where the arguments, and the package variables that the reading takes, are together of bulk at most 1048576: NARROWER than '..Said'. Prove '..Said' where nothing that the law and all that it calls make is longer than what came in: it says more and counts as full. Else prove '..UptoSaid'. A law counts once. -/
mutual
def uptoBulk {H : Type} : DataW H → Nat
  | .lit (.string bytes) => bytes.length + 1
  | .lit _ => 1
  | .nil => 1
  | .ptr d => uptoBulk d + 1
  | .slice elems spare => uptoBulkAll elems + uptoBulkAll spare + 1
  | .agg parts => uptoBulkAll parts + 1
  | .iface _ d => uptoBulk d + 1
  | .map entries => uptoBulkEntries entries + 1
  | .held _ => 1
def uptoBulkAll {H : Type} : List (DataW H) → Nat
  | [] => 0
  | d :: r => uptoBulk d + uptoBulkAll r
def uptoBulkEntries {H : Type} : List (Lit × DataW H) → Nat
  | [] => 0
  | x :: r => uptoBulkEntry x + uptoBulkEntries r
def uptoBulkEntry {H : Type} : Lit × DataW H → Nat
  | (.string bytes, d) => bytes.length + uptoBulk d + 1
  | (_, d) => uptoBulk d + 1
 end
def uptoSmall : (H : Type) → List (DataW H) → Bool := fun _ ds => decide (uptoBulkAll ds ≤ 1048576)
def OpenSpec.upto (s : _root_.Go.ChangeSpec) : _root_.Go.OpenSpec := { _root_.Go.OpenSpec.ofChange s with cond := some uptoSmall }

/-- 'treenaillaw15.BufOrder', WHERE WHAT IT READS IS OF BULK AT MOST 1048576: true; the input reads as it did. -/
def bufOrderUptoRow : OpenClaim := { program := "ytcjeonamebnpfaa", sum := "15f1352df3cd7f60207eb56ccf8f02824a81f027898ecad22ccf4b63086ad6a2", func := "treenail/treenaillaw15.BufOrder", spec := "bufOrder", inPlace := ["slices.overlaps[treenail/rec.Update]"], unfollowed := true, recurses := true, apart := false, narrowed := true }
def BufOrderUptoSaid : Prop := bufOrderUptoRow.holds Try.pinned (OpenSpec.upto bufOrderSpec)

/-- 'treenaillaw16.LeafParts', WHERE WHAT IT READS IS OF BULK AT MOST 1048576: true; the input reads as it did. -/
def leafPartsUptoRow : OpenClaim := { program := "ytcjeonamebnpfaa", sum := "15f1352df3cd7f60207eb56ccf8f02824a81f027898ecad22ccf4b63086ad6a2", func := "treenail/treenaillaw16.LeafParts", spec := "leafParts", inPlace := ["slices.overlaps[treenail/leaf.Entry]"], unfollowed := true, recurses := true, apart := false, narrowed := true }
def LeafPartsUptoSaid : Prop := leafPartsUptoRow.holds Try.pinned (OpenSpec.upto leafPartsSpec)

/-- 'treenaillaw16.LeafOrder', WHERE WHAT IT READS IS OF BULK AT MOST 1048576: true; the input reads as it did. -/
def leafOrderUptoRow : OpenClaim := { program := "ytcjeonamebnpfaa", sum := "15f1352df3cd7f60207eb56ccf8f02824a81f027898ecad22ccf4b63086ad6a2", func := "treenail/treenaillaw16.LeafOrder", spec := "leafOrder", inPlace := ["slices.overlaps[treenail/leaf.Entry]"], unfollowed := true, recurses := true, apart := false, narrowed := true }
def LeafOrderUptoSaid : Prop := leafOrderUptoRow.holds Try.pinned (OpenSpec.upto leafOrderSpec)

/-- 'treenaillaw15.BufFolds', WHERE WHAT IT READS IS OF BULK AT MOST 1048576: true; the input reads as it did. -/
def bufFoldsUptoRow : OpenClaim := { program := "ytcjeonamebnpfaa", sum := "15f1352df3cd7f60207eb56ccf8f02824a81f027898ecad22ccf4b63086ad6a2", func := "treenail/treenaillaw15.BufFolds", spec := "bufFolds", inPlace := ["slices.overlaps[treenail/rec.Update]"], unfollowed := true, recurses := true, apart := false, narrowed := true }
def BufFoldsUptoSaid : Prop := bufFoldsUptoRow.holds Try.pinned (OpenSpec.upto bufFoldsSpec)

/-- 'treenaillaw16.LeafParses', WHERE WHAT IT READS IS OF BULK AT MOST 1048576: true; the input reads as it did. -/
def leafParsesUptoRow : OpenClaim := { program := "ytcjeonamebnpfaa", sum := "15f1352df3cd7f60207eb56ccf8f02824a81f027898ecad22ccf4b63086ad6a2", func := "treenail/treenaillaw16.LeafParses", spec := "leafParses", inPlace := ["slices.overlaps[treenail/leaf.Entry]"], unfollowed := true, recurses := true, apart := false, narrowed := true }
def LeafParsesUptoSaid : Prop := leafParsesUptoRow.holds Try.pinned (OpenSpec.upto leafParsesSpec)

/-- 'treenaillaw16.LeafPlays', WHERE WHAT IT READS IS OF BULK AT MOST 1048576: true; the input reads as it did. -/
def leafPlaysUptoRow : OpenClaim := { program := "ytcjeonamebnpfaa", sum := "15f1352df3cd7f60207eb56ccf8f02824a81f027898ecad22ccf4b63086ad6a2", func := "treenail/treenaillaw16.LeafPlays", spec := "leafPlays", inPlace := ["slices.overlaps[treenail/leaf.Entry]", "internal/abi.NoEscape"], unfollowed := true, recurses := true, apart := false, narrowed := true }
def LeafPlaysUptoSaid : Prop := leafPlaysUptoRow.holds Try.pinned (OpenSpec.upto leafPlaysSpec)

/-- 'treenaillaw15.BufPlays', WHERE WHAT IT READS IS OF BULK AT MOST 1048576: true; the input reads as it did. -/
def bufPlaysUptoRow : OpenClaim := { program := "ytcjeonamebnpfaa", sum := "15f1352df3cd7f60207eb56ccf8f02824a81f027898ecad22ccf4b63086ad6a2", func := "treenail/treenaillaw15.BufPlays", spec := "bufPlays", inPlace := ["slices.overlaps[treenail/rec.Update]", "internal/abi.NoEscape"], unfollowed := true, recurses := true, apart := false, narrowed := true }
def BufPlaysUptoSaid : Prop := bufPlaysUptoRow.holds Try.pinned (OpenSpec.upto bufPlaysSpec)

/-- 'treenaillaw15.BufParses', WHERE WHAT IT READS IS OF BULK AT MOST 1048576: true; the input reads as it did. -/
def bufParsesUptoRow : OpenClaim := { program := "ytcjeonamebnpfaa", sum := "15f1352df3cd7f60207eb56ccf8f02824a81f027898ecad22ccf4b63086ad6a2", func := "treenail/treenaillaw15.BufParses", spec := "bufParses", inPlace := ["slices.overlaps[treenail/rec.Update]"], unfollowed := true, recurses := true, apart := false, narrowed := true }
def BufParsesUptoSaid : Prop := bufParsesUptoRow.holds Try.pinned (OpenSpec.upto bufParsesSpec)

end Rows
end Go.Proofs.Ytcjeonamebnpfaa
