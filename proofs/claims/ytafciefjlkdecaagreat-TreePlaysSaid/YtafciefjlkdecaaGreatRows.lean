/-
  No cell of these rows narrows 'for every input' (looked for: loops, veiled, ifaces, maps, wideKeys, modest, calm, conditions, laid).
  DERIVED. THE GIVEN ROWS OF THIS SEAT. 7 by the template 'for every input the law returns true; each argument reads behind the call as it read before'; 0 by the template 'total and deterministic' (their statements: YtafciefjlkdecaaGreatTotals.lean).
  GIVEN WITH THE SEED: the statements are not yours to turn. If you find one false, say at which input.
  Laid BY PROGRAM, IN A SANDBOX (cutbox-rows.mjs): the forced cells as the released guide's own fill.sh prints them over the translation b365987ebdd1e30b… (all of the seat's roots in one cut). By AI agents, Wed Nov 11 2026. No macro, syntax, notation, axiom, sorry.
-/
import Derived.Test.YtafciefjlkdecaaGreatChecked
import GoSem.Claim
import GoSem.ClaimJoined
import GoSem.ClaimMapViews
import Derived.JoinedTies
import Derived.KernelRfl
namespace Go.Proofs.YtafciefjlkdecaaGreat
/- THE CELL 'sum', in the pinned program and in every row, IS THE sha256 OF THE DUMP (.gsa) THAT YtafciefjlkdecaaGreatProg.lean LOADS. Nothing in Lean hashes anything: it is a label: what it is worth is what the hold of that sum in a sandbox is worth. -/
noncomputable def Tryz.pinned : Pinned := { name := "ytafciefjlkdecaagreat", sum := "b365987ebdd1e30b1d23a087f3e544f2eeceeef10e207c0264a720ab650637dc", checked := Tryz.checked }
namespace Rows
def none {H : Type} : Left H := { results := [], args := [] }

/-- 'treenaillaw21.TreeFlushes': WHATEVER THE INPUT: true; the input reads as it did. -/
def treeFlushesSpec : ChangeSpec := { name := "treeFlushes", fn := fun _ => fun
  | [d1, d2] => { results := [.lit (.bool true)], args := [d1, d2] }
  | _ => none }
def treeFlushesRow : OpenClaim := { program := "ytafciefjlkdecaagreat", sum := "b365987ebdd1e30b1d23a087f3e544f2eeceeef10e207c0264a720ab650637dc", func := "treenail/treenaillaw21.TreeFlushes", spec := "treeFlushes", inPlace := ["internal/abi.NoEscape", "slices.overlaps[treenail/leaf.Entry]", "slices.overlaps[treenail/rec.Update]"], unfollowed := true, recurses := true, apart := false }
def TreeFlushesSaid : Prop := treeFlushesRow.holds Tryz.pinned (OpenSpec.ofChange treeFlushesSpec)

/-- ITS FALSE NEIGHBOUR: 'it returns false'. Refute it at one input. -/
def treeFlushesWrong : ChangeSpec := { name := "treeFlushes", fn := fun _ => fun
  | [d1, d2] => { results := [.lit (.bool false)], args := [d1, d2] }
  | _ => none }
def TreeFlushesWrongFalsely : Prop := treeFlushesRow.holds Tryz.pinned (OpenSpec.ofChange treeFlushesWrong)

/-- 'treenaillaw21.TreePlays': WHATEVER THE INPUT: true; the input reads as it did. -/
def treePlaysSpec : ChangeSpec := { name := "treePlays", fn := fun _ => fun
  | [d1, d2, d3] => { results := [.lit (.bool true)], args := [d1, d2, d3] }
  | _ => none }
def treePlaysRow : OpenClaim := { program := "ytafciefjlkdecaagreat", sum := "b365987ebdd1e30b1d23a087f3e544f2eeceeef10e207c0264a720ab650637dc", func := "treenail/treenaillaw21.TreePlays", spec := "treePlays", inPlace := ["internal/abi.NoEscape", "slices.overlaps[treenail/leaf.Entry]", "slices.overlaps[treenail/rec.Update]"], unfollowed := true, recurses := true, apart := false }
def TreePlaysSaid : Prop := treePlaysRow.holds Tryz.pinned (OpenSpec.ofChange treePlaysSpec)

/-- ITS FALSE NEIGHBOUR: 'it returns false'. Refute it at one input. -/
def treePlaysWrong : ChangeSpec := { name := "treePlays", fn := fun _ => fun
  | [d1, d2, d3] => { results := [.lit (.bool false)], args := [d1, d2, d3] }
  | _ => none }
def TreePlaysWrongFalsely : Prop := treePlaysRow.holds Tryz.pinned (OpenSpec.ofChange treePlaysWrong)

/-- 'treenaillaw21.TreeShapes': WHATEVER THE INPUT: true; the input reads as it did. -/
def treeShapesSpec : ChangeSpec := { name := "treeShapes", fn := fun _ => fun
  | [d] => { results := [.lit (.bool true)], args := [d] }
  | _ => none }
def treeShapesRow : OpenClaim := { program := "ytafciefjlkdecaagreat", sum := "b365987ebdd1e30b1d23a087f3e544f2eeceeef10e207c0264a720ab650637dc", func := "treenail/treenaillaw21.TreeShapes", spec := "treeShapes", inPlace := ["internal/abi.NoEscape", "slices.overlaps[treenail/leaf.Entry]", "slices.overlaps[treenail/rec.Update]"], unfollowed := true, recurses := true, apart := false }
def TreeShapesSaid : Prop := treeShapesRow.holds Tryz.pinned (OpenSpec.ofChange treeShapesSpec)

/-- ITS FALSE NEIGHBOUR: 'it returns false'. Refute it at one input. -/
def treeShapesWrong : ChangeSpec := { name := "treeShapes", fn := fun _ => fun
  | [d] => { results := [.lit (.bool false)], args := [d] }
  | _ => none }
def TreeShapesWrongFalsely : Prop := treeShapesRow.holds Tryz.pinned (OpenSpec.ofChange treeShapesWrong)

/-- 'treenaillaw21.TreeFails': WHATEVER THE INPUT: true; the input reads as it did. -/
def treeFailsSpec : ChangeSpec := { name := "treeFails", fn := fun _ => fun
  | [d1, d2] => { results := [.lit (.bool true)], args := [d1, d2] }
  | _ => none }
def treeFailsRow : OpenClaim := { program := "ytafciefjlkdecaagreat", sum := "b365987ebdd1e30b1d23a087f3e544f2eeceeef10e207c0264a720ab650637dc", func := "treenail/treenaillaw21.TreeFails", spec := "treeFails", inPlace := ["internal/abi.NoEscape", "slices.overlaps[treenail/leaf.Entry]", "slices.overlaps[treenail/rec.Update]"], unfollowed := true, recurses := true, apart := false }
def TreeFailsSaid : Prop := treeFailsRow.holds Tryz.pinned (OpenSpec.ofChange treeFailsSpec)

/-- ITS FALSE NEIGHBOUR: 'it returns false'. Refute it at one input. -/
def treeFailsWrong : ChangeSpec := { name := "treeFails", fn := fun _ => fun
  | [d1, d2] => { results := [.lit (.bool false)], args := [d1, d2] }
  | _ => none }
def TreeFailsWrongFalsely : Prop := treeFailsRow.holds Tryz.pinned (OpenSpec.ofChange treeFailsWrong)

/-- 'treenaillaw21.TreeCopies': WHATEVER THE INPUT: true; the input reads as it did. -/
def treeCopiesSpec : ChangeSpec := { name := "treeCopies", fn := fun _ => fun
  | [d1, d2] => { results := [.lit (.bool true)], args := [d1, d2] }
  | _ => none }
def treeCopiesRow : OpenClaim := { program := "ytafciefjlkdecaagreat", sum := "b365987ebdd1e30b1d23a087f3e544f2eeceeef10e207c0264a720ab650637dc", func := "treenail/treenaillaw21.TreeCopies", spec := "treeCopies", inPlace := ["internal/abi.NoEscape", "slices.overlaps[treenail/leaf.Entry]", "slices.overlaps[treenail/rec.Update]"], unfollowed := true, recurses := true, apart := false }
def TreeCopiesSaid : Prop := treeCopiesRow.holds Tryz.pinned (OpenSpec.ofChange treeCopiesSpec)

/-- ITS FALSE NEIGHBOUR: 'it returns false'. Refute it at one input. -/
def treeCopiesWrong : ChangeSpec := { name := "treeCopies", fn := fun _ => fun
  | [d1, d2] => { results := [.lit (.bool false)], args := [d1, d2] }
  | _ => none }
def TreeCopiesWrongFalsely : Prop := treeCopiesRow.holds Tryz.pinned (OpenSpec.ofChange treeCopiesWrong)

/-- 'treenaillaw21.TreeShelves': WHATEVER THE INPUT: true; the input reads as it did. -/
def treeShelvesSpec : ChangeSpec := { name := "treeShelves", fn := fun _ => fun
  | [d] => { results := [.lit (.bool true)], args := [d] }
  | _ => none }
def treeShelvesRow : OpenClaim := { program := "ytafciefjlkdecaagreat", sum := "b365987ebdd1e30b1d23a087f3e544f2eeceeef10e207c0264a720ab650637dc", func := "treenail/treenaillaw21.TreeShelves", spec := "treeShelves", inPlace := ["internal/abi.NoEscape", "slices.overlaps[treenail/leaf.Entry]", "slices.overlaps[treenail/rec.Update]"], unfollowed := true, recurses := true, apart := false }
def TreeShelvesSaid : Prop := treeShelvesRow.holds Tryz.pinned (OpenSpec.ofChange treeShelvesSpec)

/-- ITS FALSE NEIGHBOUR: 'it returns false'. Refute it at one input. -/
def treeShelvesWrong : ChangeSpec := { name := "treeShelves", fn := fun _ => fun
  | [d] => { results := [.lit (.bool false)], args := [d] }
  | _ => none }
def TreeShelvesWrongFalsely : Prop := treeShelvesRow.holds Tryz.pinned (OpenSpec.ofChange treeShelvesWrong)

/-- 'treenaillaw21.TreeRefuses': WHATEVER THE INPUT: true; the input reads as it did. -/
def treeRefusesSpec : ChangeSpec := { name := "treeRefuses", fn := fun _ => fun
  | [d1, d2, d3] => { results := [.lit (.bool true)], args := [d1, d2, d3] }
  | _ => none }
def treeRefusesRow : OpenClaim := { program := "ytafciefjlkdecaagreat", sum := "b365987ebdd1e30b1d23a087f3e544f2eeceeef10e207c0264a720ab650637dc", func := "treenail/treenaillaw21.TreeRefuses", spec := "treeRefuses", inPlace := ["internal/abi.NoEscape", "slices.overlaps[treenail/leaf.Entry]", "slices.overlaps[treenail/rec.Update]"], unfollowed := true, recurses := true, apart := false }
def TreeRefusesSaid : Prop := treeRefusesRow.holds Tryz.pinned (OpenSpec.ofChange treeRefusesSpec)

/-- ITS FALSE NEIGHBOUR: 'it returns false'. Refute it at one input. -/
def treeRefusesWrong : ChangeSpec := { name := "treeRefuses", fn := fun _ => fun
  | [d1, d2, d3] => { results := [.lit (.bool false)], args := [d1, d2, d3] }
  | _ => none }
def TreeRefusesWrongFalsely : Prop := treeRefusesRow.holds Tryz.pinned (OpenSpec.ofChange treeRefusesWrong)

/- THE SECOND FORM. 'bulk': how many values and letters a reading holds, each counted each time it is reached (what is shared counts as often as it is met; a slice's spare places count too). A statement '..UptoSaid' is the law's where the arguments, and the package variables that the reading takes, are together of bulk at most 1048576: NARROWER than '..Said'. Prove '..Said' where nothing that the law and all that it calls make is longer than what came in: it says more and counts as full. Else prove '..UptoSaid'. A law counts once. -/
mutual
def uptoBulk {H : Type} : DataW H → Nat
  | .lit (.string bytes) => bytes.length + 1
  | .lit _ => 1
  | .nil => 1
  | .ptr d => uptoBulk d + 1
  | .slice elems spare => uptoBulkAll elems + uptoBulkAll spare + 1
  | .agg parts => uptoBulkAll parts + 1
  | .iface _ d => uptoBulk d + 1
  | .map entries => uptoBulkEntries entries + 1
  | .held _ => 1
def uptoBulkAll {H : Type} : List (DataW H) → Nat
  | [] => 0
  | d :: r => uptoBulk d + uptoBulkAll r
def uptoBulkEntries {H : Type} : List (Lit × DataW H) → Nat
  | [] => 0
  | x :: r => uptoBulkEntry x + uptoBulkEntries r
def uptoBulkEntry {H : Type} : Lit × DataW H → Nat
  | (.string bytes, d) => bytes.length + uptoBulk d + 1
  | (_, d) => uptoBulk d + 1
 end
def uptoSmall : (H : Type) → List (DataW H) → Bool := fun _ ds => decide (uptoBulkAll ds ≤ 1048576)
def OpenSpec.upto (s : _root_.Go.ChangeSpec) : _root_.Go.OpenSpec := { _root_.Go.OpenSpec.ofChange s with cond := some uptoSmall }

/-- 'treenaillaw21.TreeFlushes', WHERE WHAT IT READS IS OF BULK AT MOST 1048576: true; the input reads as it did. -/
def treeFlushesUptoRow : OpenClaim := { program := "ytafciefjlkdecaagreat", sum := "b365987ebdd1e30b1d23a087f3e544f2eeceeef10e207c0264a720ab650637dc", func := "treenail/treenaillaw21.TreeFlushes", spec := "treeFlushes", inPlace := ["internal/abi.NoEscape", "slices.overlaps[treenail/leaf.Entry]", "slices.overlaps[treenail/rec.Update]"], unfollowed := true, recurses := true, apart := false, narrowed := true }
def TreeFlushesUptoSaid : Prop := treeFlushesUptoRow.holds Tryz.pinned (OpenSpec.upto treeFlushesSpec)

/-- 'treenaillaw21.TreePlays', WHERE WHAT IT READS IS OF BULK AT MOST 1048576: true; the input reads as it did. -/
def treePlaysUptoRow : OpenClaim := { program := "ytafciefjlkdecaagreat", sum := "b365987ebdd1e30b1d23a087f3e544f2eeceeef10e207c0264a720ab650637dc", func := "treenail/treenaillaw21.TreePlays", spec := "treePlays", inPlace := ["internal/abi.NoEscape", "slices.overlaps[treenail/leaf.Entry]", "slices.overlaps[treenail/rec.Update]"], unfollowed := true, recurses := true, apart := false, narrowed := true }
def TreePlaysUptoSaid : Prop := treePlaysUptoRow.holds Tryz.pinned (OpenSpec.upto treePlaysSpec)

/-- 'treenaillaw21.TreeShapes', WHERE WHAT IT READS IS OF BULK AT MOST 1048576: true; the input reads as it did. -/
def treeShapesUptoRow : OpenClaim := { program := "ytafciefjlkdecaagreat", sum := "b365987ebdd1e30b1d23a087f3e544f2eeceeef10e207c0264a720ab650637dc", func := "treenail/treenaillaw21.TreeShapes", spec := "treeShapes", inPlace := ["internal/abi.NoEscape", "slices.overlaps[treenail/leaf.Entry]", "slices.overlaps[treenail/rec.Update]"], unfollowed := true, recurses := true, apart := false, narrowed := true }
def TreeShapesUptoSaid : Prop := treeShapesUptoRow.holds Tryz.pinned (OpenSpec.upto treeShapesSpec)

/-- 'treenaillaw21.TreeFails', WHERE WHAT IT READS IS OF BULK AT MOST 1048576: true; the input reads as it did. -/
def treeFailsUptoRow : OpenClaim := { program := "ytafciefjlkdecaagreat", sum := "b365987ebdd1e30b1d23a087f3e544f2eeceeef10e207c0264a720ab650637dc", func := "treenail/treenaillaw21.TreeFails", spec := "treeFails", inPlace := ["internal/abi.NoEscape", "slices.overlaps[treenail/leaf.Entry]", "slices.overlaps[treenail/rec.Update]"], unfollowed := true, recurses := true, apart := false, narrowed := true }
def TreeFailsUptoSaid : Prop := treeFailsUptoRow.holds Tryz.pinned (OpenSpec.upto treeFailsSpec)

/-- 'treenaillaw21.TreeCopies', WHERE WHAT IT READS IS OF BULK AT MOST 1048576: true; the input reads as it did. -/
def treeCopiesUptoRow : OpenClaim := { program := "ytafciefjlkdecaagreat", sum := "b365987ebdd1e30b1d23a087f3e544f2eeceeef10e207c0264a720ab650637dc", func := "treenail/treenaillaw21.TreeCopies", spec := "treeCopies", inPlace := ["internal/abi.NoEscape", "slices.overlaps[treenail/leaf.Entry]", "slices.overlaps[treenail/rec.Update]"], unfollowed := true, recurses := true, apart := false, narrowed := true }
def TreeCopiesUptoSaid : Prop := treeCopiesUptoRow.holds Tryz.pinned (OpenSpec.upto treeCopiesSpec)

/-- 'treenaillaw21.TreeShelves', WHERE WHAT IT READS IS OF BULK AT MOST 1048576: true; the input reads as it did. -/
def treeShelvesUptoRow : OpenClaim := { program := "ytafciefjlkdecaagreat", sum := "b365987ebdd1e30b1d23a087f3e544f2eeceeef10e207c0264a720ab650637dc", func := "treenail/treenaillaw21.TreeShelves", spec := "treeShelves", inPlace := ["internal/abi.NoEscape", "slices.overlaps[treenail/leaf.Entry]", "slices.overlaps[treenail/rec.Update]"], unfollowed := true, recurses := true, apart := false, narrowed := true }
def TreeShelvesUptoSaid : Prop := treeShelvesUptoRow.holds Tryz.pinned (OpenSpec.upto treeShelvesSpec)

/-- 'treenaillaw21.TreeRefuses', WHERE WHAT IT READS IS OF BULK AT MOST 1048576: true; the input reads as it did. -/
def treeRefusesUptoRow : OpenClaim := { program := "ytafciefjlkdecaagreat", sum := "b365987ebdd1e30b1d23a087f3e544f2eeceeef10e207c0264a720ab650637dc", func := "treenail/treenaillaw21.TreeRefuses", spec := "treeRefuses", inPlace := ["internal/abi.NoEscape", "slices.overlaps[treenail/leaf.Entry]", "slices.overlaps[treenail/rec.Update]"], unfollowed := true, recurses := true, apart := false, narrowed := true }
def TreeRefusesUptoSaid : Prop := treeRefusesUptoRow.holds Tryz.pinned (OpenSpec.upto treeRefusesSpec)

end Rows
end Go.Proofs.YtafciefjlkdecaaGreat
