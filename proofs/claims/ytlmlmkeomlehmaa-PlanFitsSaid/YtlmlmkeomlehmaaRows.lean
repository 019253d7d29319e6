/-
  No cell of these rows narrows 'for every input' (looked for: loops, veiled, ifaces, maps, wideKeys, modest, calm, conditions, laid).
  DERIVED. THE GIVEN ROWS OF THIS SEAT. 9 by the template 'for every input the law returns true; each argument reads behind the call as it read before'; 0 by the template 'total and deterministic' (their statements: YtlmlmkeomlehmaaTotals.lean).
  GIVEN WITH THE SEED: the statements are not yours to turn. If you find one false, say at which input.
  Laid BY PROGRAM, IN A SANDBOX (cutbox-rows.mjs): the forced cells as the released guide's own fill.sh prints them over the translation 44aa8efda821d0f2… (all of the seat's roots in one cut). By AI agents, Wed Nov 11 2026. No macro, syntax, notation, axiom, sorry.
-/
import Derived.Test.YtlmlmkeomlehmaaChecked
import GoSem.Claim
import GoSem.ClaimJoined
import GoSem.ClaimMapViews
import Derived.JoinedTies
import Derived.KernelRfl
namespace Go.Proofs.Ytlmlmkeomlehmaa
/- THE CELL 'sum', in the pinned program and in every row, IS THE sha256 OF THE DUMP (.gsa) THAT YtlmlmkeomlehmaaProg.lean LOADS. Nothing in Lean hashes anything: it is a label: what it is worth is what the hold of that sum in a sandbox is worth. -/
noncomputable def Try.pinned : Pinned := { name := "ytlmlmkeomlehmaa", sum := "44aa8efda821d0f20de776f9e3b4845108347fe4c6af4fa9b60550a1d7908ee5", checked := Try.checked }
namespace Rows
def none {H : Type} : Left H := { results := [], args := [] }

/-- 'treenaillaw17.NodeTexts': WHATEVER THE INPUT: true; the input reads as it did. -/
def nodeTextsSpec : ChangeSpec := { name := "nodeTexts", fn := fun _ => fun
  | [d1, d2, d3] => { results := [.lit (.bool true)], args := [d1, d2, d3] }
  | _ => none }
def nodeTextsRow : OpenClaim := { program := "ytlmlmkeomlehmaa", sum := "44aa8efda821d0f20de776f9e3b4845108347fe4c6af4fa9b60550a1d7908ee5", func := "treenail/treenaillaw17.NodeTexts", spec := "nodeTexts", inPlace := ["slices.overlaps[treenail/rec.Update]", "internal/abi.NoEscape"], unfollowed := true, recurses := true, apart := false }
def NodeTextsSaid : Prop := nodeTextsRow.holds Try.pinned (OpenSpec.ofChange nodeTextsSpec)

/-- ITS FALSE NEIGHBOUR: 'it returns false'. Refute it at one input. -/
def nodeTextsWrong : ChangeSpec := { name := "nodeTexts", fn := fun _ => fun
  | [d1, d2, d3] => { results := [.lit (.bool false)], args := [d1, d2, d3] }
  | _ => none }
def NodeTextsWrongFalsely : Prop := nodeTextsRow.holds Try.pinned (OpenSpec.ofChange nodeTextsWrong)

/-- 'treenaillaw17.NodeParses': WHATEVER THE INPUT: true; the input reads as it did. -/
def nodeParsesSpec : ChangeSpec := { name := "nodeParses", fn := fun _ => fun
  | [d1, d2, d3] => { results := [.lit (.bool true)], args := [d1, d2, d3] }
  | _ => none }
def nodeParsesRow : OpenClaim := { program := "ytlmlmkeomlehmaa", sum := "44aa8efda821d0f20de776f9e3b4845108347fe4c6af4fa9b60550a1d7908ee5", func := "treenail/treenaillaw17.NodeParses", spec := "nodeParses", inPlace := ["slices.overlaps[treenail/rec.Update]", "internal/abi.NoEscape"], unfollowed := true, recurses := true, apart := false }
def NodeParsesSaid : Prop := nodeParsesRow.holds Try.pinned (OpenSpec.ofChange nodeParsesSpec)

/-- ITS FALSE NEIGHBOUR: 'it returns false'. Refute it at one input. -/
def nodeParsesWrong : ChangeSpec := { name := "nodeParses", fn := fun _ => fun
  | [d1, d2, d3] => { results := [.lit (.bool false)], args := [d1, d2, d3] }
  | _ => none }
def NodeParsesWrongFalsely : Prop := nodeParsesRow.holds Try.pinned (OpenSpec.ofChange nodeParsesWrong)

/-- 'treenaillaw17.NodeBack': WHATEVER THE INPUT: true; the input reads as it did. -/
def nodeBackSpec : ChangeSpec := { name := "nodeBack", fn := fun _ => fun
  | [d1, d2, d3] => { results := [.lit (.bool true)], args := [d1, d2, d3] }
  | _ => none }
def nodeBackRow : OpenClaim := { program := "ytlmlmkeomlehmaa", sum := "44aa8efda821d0f20de776f9e3b4845108347fe4c6af4fa9b60550a1d7908ee5", func := "treenail/treenaillaw17.NodeBack", spec := "nodeBack", inPlace := ["slices.overlaps[treenail/rec.Update]", "internal/abi.NoEscape"], unfollowed := true, recurses := true, apart := false }
def NodeBackSaid : Prop := nodeBackRow.holds Try.pinned (OpenSpec.ofChange nodeBackSpec)

/-- ITS FALSE NEIGHBOUR: 'it returns false'. Refute it at one input. -/
def nodeBackWrong : ChangeSpec := { name := "nodeBack", fn := fun _ => fun
  | [d1, d2, d3] => { results := [.lit (.bool false)], args := [d1, d2, d3] }
  | _ => none }
def NodeBackWrongFalsely : Prop := nodeBackRow.holds Try.pinned (OpenSpec.ofChange nodeBackWrong)

/-- 'treenaillaw17.NodeParts': WHATEVER THE INPUT: true; the input reads as it did. -/
def nodePartsSpec : ChangeSpec := { name := "nodeParts", fn := fun _ => fun
  | [d1, d2, d3] => { results := [.lit (.bool true)], args := [d1, d2, d3] }
  | _ => none }
def nodePartsRow : OpenClaim := { program := "ytlmlmkeomlehmaa", sum := "44aa8efda821d0f20de776f9e3b4845108347fe4c6af4fa9b60550a1d7908ee5", func := "treenail/treenaillaw17.NodeParts", spec := "nodeParts", inPlace := ["slices.overlaps[treenail/rec.Update]", "internal/abi.NoEscape"], unfollowed := true, recurses := true, apart := false }
def NodePartsSaid : Prop := nodePartsRow.holds Try.pinned (OpenSpec.ofChange nodePartsSpec)

/-- ITS FALSE NEIGHBOUR: 'it returns false'. Refute it at one input. -/
def nodePartsWrong : ChangeSpec := { name := "nodeParts", fn := fun _ => fun
  | [d1, d2, d3] => { results := [.lit (.bool false)], args := [d1, d2, d3] }
  | _ => none }
def NodePartsWrongFalsely : Prop := nodePartsRow.holds Try.pinned (OpenSpec.ofChange nodePartsWrong)

/-- 'treenaillaw20.FlushSteps': WHATEVER THE INPUT: true; the input reads as it did. -/
def flushStepsSpec : ChangeSpec := { name := "flushSteps", fn := fun _ => fun
  | [d1, d2, d3] => { results := [.lit (.bool true)], args := [d1, d2, d3] }
  | _ => none }
def flushStepsRow : OpenClaim := { program := "ytlmlmkeomlehmaa", sum := "44aa8efda821d0f20de776f9e3b4845108347fe4c6af4fa9b60550a1d7908ee5", func := "treenail/treenaillaw20.FlushSteps", spec := "flushSteps", inPlace := ["slices.overlaps[treenail/rec.Update]"], unfollowed := true, recurses := true, apart := false }
def FlushStepsSaid : Prop := flushStepsRow.holds Try.pinned (OpenSpec.ofChange flushStepsSpec)

/-- ITS FALSE NEIGHBOUR: 'it returns false'. Refute it at one input. -/
def flushStepsWrong : ChangeSpec := { name := "flushSteps", fn := fun _ => fun
  | [d1, d2, d3] => { results := [.lit (.bool false)], args := [d1, d2, d3] }
  | _ => none }
def FlushStepsWrongFalsely : Prop := flushStepsRow.holds Try.pinned (OpenSpec.ofChange flushStepsWrong)

/-- 'treenaillaw20.FlushAll': WHATEVER THE INPUT: true; the input reads as it did. -/
def flushAllSpec : ChangeSpec := { name := "flushAll", fn := fun _ => fun
  | [d1, d2] => { results := [.lit (.bool true)], args := [d1, d2] }
  | _ => none }
def flushAllRow : OpenClaim := { program := "ytlmlmkeomlehmaa", sum := "44aa8efda821d0f20de776f9e3b4845108347fe4c6af4fa9b60550a1d7908ee5", func := "treenail/treenaillaw20.FlushAll", spec := "flushAll", inPlace := ["slices.overlaps[treenail/rec.Update]"], unfollowed := true, recurses := true, apart := false }
def FlushAllSaid : Prop := flushAllRow.holds Try.pinned (OpenSpec.ofChange flushAllSpec)

/-- ITS FALSE NEIGHBOUR: 'it returns false'. Refute it at one input. -/
def flushAllWrong : ChangeSpec := { name := "flushAll", fn := fun _ => fun
  | [d1, d2] => { results := [.lit (.bool false)], args := [d1, d2] }
  | _ => none }
def FlushAllWrongFalsely : Prop := flushAllRow.holds Try.pinned (OpenSpec.ofChange flushAllWrong)

/-- 'treenaillaw20.FlushLimits': WHATEVER THE INPUT: true; the input reads as it did. -/
def flushLimitsSpec : ChangeSpec := { name := "flushLimits", fn := fun _ => fun
  | [d1, d2, d3] => { results := [.lit (.bool true)], args := [d1, d2, d3] }
  | _ => none }
def flushLimitsRow : OpenClaim := { program := "ytlmlmkeomlehmaa", sum := "44aa8efda821d0f20de776f9e3b4845108347fe4c6af4fa9b60550a1d7908ee5", func := "treenail/treenaillaw20.FlushLimits", spec := "flushLimits", inPlace := ["slices.overlaps[treenail/rec.Update]"], unfollowed := true, recurses := true, apart := false }
def FlushLimitsSaid : Prop := flushLimitsRow.holds Try.pinned (OpenSpec.ofChange flushLimitsSpec)

/-- ITS FALSE NEIGHBOUR: 'it returns false'. Refute it at one input. -/
def flushLimitsWrong : ChangeSpec := { name := "flushLimits", fn := fun _ => fun
  | [d1, d2, d3] => { results := [.lit (.bool false)], args := [d1, d2, d3] }
  | _ => none }
def FlushLimitsWrongFalsely : Prop := flushLimitsRow.holds Try.pinned (OpenSpec.ofChange flushLimitsWrong)

/-- 'treenaillaw20.FlushRest': WHATEVER THE INPUT: true; the input reads as it did. -/
def flushRestSpec : ChangeSpec := { name := "flushRest", fn := fun _ => fun
  | [d1, d2] => { results := [.lit (.bool true)], args := [d1, d2] }
  | _ => none }
def flushRestRow : OpenClaim := { program := "ytlmlmkeomlehmaa", sum := "44aa8efda821d0f20de776f9e3b4845108347fe4c6af4fa9b60550a1d7908ee5", func := "treenail/treenaillaw20.FlushRest", spec := "flushRest", inPlace := ["slices.overlaps[treenail/rec.Update]"], unfollowed := true, recurses := true, apart := false }
def FlushRestSaid : Prop := flushRestRow.holds Try.pinned (OpenSpec.ofChange flushRestSpec)

/-- ITS FALSE NEIGHBOUR: 'it returns false'. Refute it at one input. -/
def flushRestWrong : ChangeSpec := { name := "flushRest", fn := fun _ => fun
  | [d1, d2] => { results := [.lit (.bool false)], args := [d1, d2] }
  | _ => none }
def FlushRestWrongFalsely : Prop := flushRestRow.holds Try.pinned (OpenSpec.ofChange flushRestWrong)

/-- 'treenaillaw18.PlanFits': WHATEVER THE INPUT: true; the input reads as it did. -/
def planFitsSpec : ChangeSpec := { name := "planFits", fn := fun _ => fun
  | [d1, d2, d3] => { results := [.lit (.bool true)], args := [d1, d2, d3] }
  | _ => none }
def planFitsRow : OpenClaim := { program := "ytlmlmkeomlehmaa", sum := "44aa8efda821d0f20de776f9e3b4845108347fe4c6af4fa9b60550a1d7908ee5", func := "treenail/treenaillaw18.PlanFits", spec := "planFits", inPlace := ["internal/abi.NoEscape", "internal/bytealg.MakeNoZero", "slices.overlaps[treenail/rec.Update]", "slices.overlaps[treenail/leaf.Entry]"], unfollowed := true, recurses := true, apart := false }
def PlanFitsSaid : Prop := planFitsRow.holds Try.pinned (OpenSpec.ofChange planFitsSpec)

/-- ITS FALSE NEIGHBOUR: 'it returns false'. Refute it at one input. -/
def planFitsWrong : ChangeSpec := { name := "planFits", fn := fun _ => fun
  | [d1, d2, d3] => { results := [.lit (.bool false)], args := [d1, d2, d3] }
  | _ => none }
def PlanFitsWrongFalsely : Prop := planFitsRow.holds Try.pinned (OpenSpec.ofChange planFitsWrong)

/- THE SECOND FORM. 'bulk': how many values and letters a reading holds, each counted each time it is reached (what is shared counts as often as it is met; a slice's spare places count too). A statement '..UptoSaid' is the law's where the arguments, and the package variables that the reading takes, are together of bulk at most 1048576: NARROWER than '..Said'. Prove '..Said' where nothing that the law and all that it calls make is longer than what came in: it says more and counts as full. Else prove '..UptoSaid'. A law counts once. -/
mutual
def uptoBulk {H : Type} : DataW H → Nat
  | .lit (.string bytes) => bytes.length + 1
  | .lit _ => 1
  | .nil => 1
  | .ptr d => uptoBulk d + 1
  | .slice elems spare => uptoBulkAll elems + uptoBulkAll spare + 1
  | .agg parts => uptoBulkAll parts + 1
  | .iface _ d => uptoBulk d + 1
  | .map entries => uptoBulkEntries entries + 1
  | .held _ => 1
def uptoBulkAll {H : Type} : List (DataW H) → Nat
  | [] => 0
  | d :: r => uptoBulk d + uptoBulkAll r
def uptoBulkEntries {H : Type} : List (Lit × DataW H) → Nat
  | [] => 0
  | x :: r => uptoBulkEntry x + uptoBulkEntries r
def uptoBulkEntry {H : Type} : Lit × DataW H → Nat
  | (.string bytes, d) => bytes.length + uptoBulk d + 1
  | (_, d) => uptoBulk d + 1
 end
def uptoSmall : (H : Type) → List (DataW H) → Bool := fun _ ds => decide (uptoBulkAll ds ≤ 1048576)
def OpenSpec.upto (s : _root_.Go.ChangeSpec) : _root_.Go.OpenSpec := { _root_.Go.OpenSpec.ofChange s with cond := some uptoSmall }

/-- 'treenaillaw17.NodeTexts', WHERE WHAT IT READS IS OF BULK AT MOST 1048576: true; the input reads as it did. -/
def nodeTextsUptoRow : OpenClaim := { program := "ytlmlmkeomlehmaa", sum := "44aa8efda821d0f20de776f9e3b4845108347fe4c6af4fa9b60550a1d7908ee5", func := "treenail/treenaillaw17.NodeTexts", spec := "nodeTexts", inPlace := ["slices.overlaps[treenail/rec.Update]", "internal/abi.NoEscape"], unfollowed := true, recurses := true, apart := false, narrowed := true }
def NodeTextsUptoSaid : Prop := nodeTextsUptoRow.holds Try.pinned (OpenSpec.upto nodeTextsSpec)

/-- 'treenaillaw17.NodeParses', WHERE WHAT IT READS IS OF BULK AT MOST 1048576: true; the input reads as it did. -/
def nodeParsesUptoRow : OpenClaim := { program := "ytlmlmkeomlehmaa", sum := "44aa8efda821d0f20de776f9e3b4845108347fe4c6af4fa9b60550a1d7908ee5", func := "treenail/treenaillaw17.NodeParses", spec := "nodeParses", inPlace := ["slices.overlaps[treenail/rec.Update]", "internal/abi.NoEscape"], unfollowed := true, recurses := true, apart := false, narrowed := true }
def NodeParsesUptoSaid : Prop := nodeParsesUptoRow.holds Try.pinned (OpenSpec.upto nodeParsesSpec)

/-- 'treenaillaw17.NodeBack', WHERE WHAT IT READS IS OF BULK AT MOST 1048576: true; the input reads as it did. -/
def nodeBackUptoRow : OpenClaim := { program := "ytlmlmkeomlehmaa", sum := "44aa8efda821d0f20de776f9e3b4845108347fe4c6af4fa9b60550a1d7908ee5", func := "treenail/treenaillaw17.NodeBack", spec := "nodeBack", inPlace := ["slices.overlaps[treenail/rec.Update]", "internal/abi.NoEscape"], unfollowed := true, recurses := true, apart := false, narrowed := true }
def NodeBackUptoSaid : Prop := nodeBackUptoRow.holds Try.pinned (OpenSpec.upto nodeBackSpec)

/-- 'treenaillaw17.NodeParts', WHERE WHAT IT READS IS OF BULK AT MOST 1048576: true; the input reads as it did. -/
def nodePartsUptoRow : OpenClaim := { program := "ytlmlmkeomlehmaa", sum := "44aa8efda821d0f20de776f9e3b4845108347fe4c6af4fa9b60550a1d7908ee5", func := "treenail/treenaillaw17.NodeParts", spec := "nodeParts", inPlace := ["slices.overlaps[treenail/rec.Update]", "internal/abi.NoEscape"], unfollowed := true, recurses := true, apart := false, narrowed := true }
def NodePartsUptoSaid : Prop := nodePartsUptoRow.holds Try.pinned (OpenSpec.upto nodePartsSpec)

/-- 'treenaillaw20.FlushSteps', WHERE WHAT IT READS IS OF BULK AT MOST 1048576: true; the input reads as it did. -/
def flushStepsUptoRow : OpenClaim := { program := "ytlmlmkeomlehmaa", sum := "44aa8efda821d0f20de776f9e3b4845108347fe4c6af4fa9b60550a1d7908ee5", func := "treenail/treenaillaw20.FlushSteps", spec := "flushSteps", inPlace := ["slices.overlaps[treenail/rec.Update]"], unfollowed := true, recurses := true, apart := false, narrowed := true }
def FlushStepsUptoSaid : Prop := flushStepsUptoRow.holds Try.pinned (OpenSpec.upto flushStepsSpec)

/-- 'treenaillaw20.FlushAll', WHERE WHAT IT READS IS OF BULK AT MOST 1048576: true; the input reads as it did. -/
def flushAllUptoRow : OpenClaim := { program := "ytlmlmkeomlehmaa", sum := "44aa8efda821d0f20de776f9e3b4845108347fe4c6af4fa9b60550a1d7908ee5", func := "treenail/treenaillaw20.FlushAll", spec := "flushAll", inPlace := ["slices.overlaps[treenail/rec.Update]"], unfollowed := true, recurses := true, apart := false, narrowed := true }
def FlushAllUptoSaid : Prop := flushAllUptoRow.holds Try.pinned (OpenSpec.upto flushAllSpec)

/-- 'treenaillaw20.FlushLimits', WHERE WHAT IT READS IS OF BULK AT MOST 1048576: true; the input reads as it did. -/
def flushLimitsUptoRow : OpenClaim := { program := "ytlmlmkeomlehmaa", sum := "44aa8efda821d0f20de776f9e3b4845108347fe4c6af4fa9b60550a1d7908ee5", func := "treenail/treenaillaw20.FlushLimits", spec := "flushLimits", inPlace := ["slices.overlaps[treenail/rec.Update]"], unfollowed := true, recurses := true, apart := false, narrowed := true }
def FlushLimitsUptoSaid : Prop := flushLimitsUptoRow.holds Try.pinned (OpenSpec.upto flushLimitsSpec)

/-- 'treenaillaw20.FlushRest', WHERE WHAT IT READS IS OF BULK AT MOST 1048576: true; the input reads as it did. -/
def flushRestUptoRow : OpenClaim := { program := "ytlmlmkeomlehmaa", sum := "44aa8efda821d0f20de776f9e3b4845108347fe4c6af4fa9b60550a1d7908ee5", func := "treenail/treenaillaw20.FlushRest", spec := "flushRest", inPlace := ["slices.overlaps[treenail/rec.Update]"], unfollowed := true, recurses := true, apart := false, narrowed := true }
def FlushRestUptoSaid : Prop := flushRestUptoRow.holds Try.pinned (OpenSpec.upto flushRestSpec)

/-- 'treenaillaw18.PlanFits', WHERE WHAT IT READS IS OF BULK AT MOST 1048576: true; the input reads as it did. -/
def planFitsUptoRow : OpenClaim := { program := "ytlmlmkeomlehmaa", sum := "44aa8efda821d0f20de776f9e3b4845108347fe4c6af4fa9b60550a1d7908ee5", func := "treenail/treenaillaw18.PlanFits", spec := "planFits", inPlace := ["internal/abi.NoEscape", "internal/bytealg.MakeNoZero", "slices.overlaps[treenail/rec.Update]", "slices.overlaps[treenail/leaf.Entry]"], unfollowed := true, recurses := true, apart := false, narrowed := true }
def PlanFitsUptoSaid : Prop := planFitsUptoRow.holds Try.pinned (OpenSpec.upto planFitsSpec)

end Rows
end Go.Proofs.Ytlmlmkeomlehmaa
