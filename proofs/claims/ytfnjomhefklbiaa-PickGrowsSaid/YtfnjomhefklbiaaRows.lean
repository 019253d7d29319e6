/-
  No cell of these rows narrows 'for every input' (looked for: loops, veiled, ifaces, maps, wideKeys, modest, calm, conditions, laid).
  DERIVED. THE GIVEN ROWS OF THIS SEAT. 6 by the template 'for every input the law returns true; each argument reads behind the call as it read before'; 0 by the template 'total and deterministic' (their statements: YtfnjomhefklbiaaTotals.lean).
  GIVEN WITH THE SEED: the statements are not yours to turn. If you find one false, say at which input.
  Laid BY PROGRAM, IN A SANDBOX (cutbox-rows.mjs): the forced cells as the released guide's own fill.sh prints them over the translation 533663da6a44159c… (all of the seat's roots in one cut). By AI agents, Wed Nov 11 2026. No macro, syntax, notation, axiom, sorry.
-/
import Derived.Test.YtfnjomhefklbiaaChecked
import GoSem.Claim
import GoSem.ClaimJoined
import GoSem.ClaimMapViews
import Derived.JoinedTies
import Derived.KernelRfl
namespace Go.Proofs.Ytfnjomhefklbiaa
/- THE CELL 'sum', in the pinned program and in every row, IS THE sha256 OF THE DUMP (.gsa) THAT YtfnjomhefklbiaaProg.lean LOADS. Nothing in Lean hashes anything: it is a label: what it is worth is what the hold of that sum in a sandbox is worth. -/
noncomputable def Try.pinned : Pinned := { name := "ytfnjomhefklbiaa", sum := "533663da6a44159cfbac0c2a8537b3648ac281414cb1872f33d6a5e55491b3f9", checked := Try.checked }
namespace Rows
def none {H : Type} : Left H := { results := [], args := [] }

/-- 'treenaillaw18.PlanChecks': WHATEVER THE INPUT: true; the input reads as it did. -/
def planChecksSpec : ChangeSpec := { name := "planChecks", fn := fun _ => fun
  | [d1, d2] => { results := [.lit (.bool true)], args := [d1, d2] }
  | _ => none }
def planChecksRow : OpenClaim := { program := "ytfnjomhefklbiaa", sum := "533663da6a44159cfbac0c2a8537b3648ac281414cb1872f33d6a5e55491b3f9", func := "treenail/treenaillaw18.PlanChecks", spec := "planChecks", apart := false }
def PlanChecksSaid : Prop := planChecksRow.holds Try.pinned (OpenSpec.ofChange planChecksSpec)

/-- ITS FALSE NEIGHBOUR: 'it returns false'. Refute it at one input. -/
def planChecksWrong : ChangeSpec := { name := "planChecks", fn := fun _ => fun
  | [d1, d2] => { results := [.lit (.bool false)], args := [d1, d2] }
  | _ => none }
def PlanChecksWrongFalsely : Prop := planChecksRow.holds Try.pinned (OpenSpec.ofChange planChecksWrong)

/-- 'treenaillaw18.PlanBest': WHATEVER THE INPUT: true; the input reads as it did. -/
def planBestSpec : ChangeSpec := { name := "planBest", fn := fun _ => fun
  | [d1, d2] => { results := [.lit (.bool true)], args := [d1, d2] }
  | _ => none }
def planBestRow : OpenClaim := { program := "ytfnjomhefklbiaa", sum := "533663da6a44159cfbac0c2a8537b3648ac281414cb1872f33d6a5e55491b3f9", func := "treenail/treenaillaw18.PlanBest", spec := "planBest", apart := false }
def PlanBestSaid : Prop := planBestRow.holds Try.pinned (OpenSpec.ofChange planBestSpec)

/-- ITS FALSE NEIGHBOUR: 'it returns false'. Refute it at one input. -/
def planBestWrong : ChangeSpec := { name := "planBest", fn := fun _ => fun
  | [d1, d2] => { results := [.lit (.bool false)], args := [d1, d2] }
  | _ => none }
def PlanBestWrongFalsely : Prop := planBestRow.holds Try.pinned (OpenSpec.ofChange planBestWrong)

/-- 'treenaillaw18.PlanMore': WHATEVER THE INPUT: true; the input reads as it did. -/
def planMoreSpec : ChangeSpec := { name := "planMore", fn := fun _ => fun
  | [d1, d2] => { results := [.lit (.bool true)], args := [d1, d2] }
  | _ => none }
def planMoreRow : OpenClaim := { program := "ytfnjomhefklbiaa", sum := "533663da6a44159cfbac0c2a8537b3648ac281414cb1872f33d6a5e55491b3f9", func := "treenail/treenaillaw18.PlanMore", spec := "planMore", apart := false }
def PlanMoreSaid : Prop := planMoreRow.holds Try.pinned (OpenSpec.ofChange planMoreSpec)

/-- ITS FALSE NEIGHBOUR: 'it returns false'. Refute it at one input. -/
def planMoreWrong : ChangeSpec := { name := "planMore", fn := fun _ => fun
  | [d1, d2] => { results := [.lit (.bool false)], args := [d1, d2] }
  | _ => none }
def PlanMoreWrongFalsely : Prop := planMoreRow.holds Try.pinned (OpenSpec.ofChange planMoreWrong)

/-- 'treenaillaw19.PickOrders': WHATEVER THE INPUT: true; the input reads as it did. -/
def pickOrdersSpec : ChangeSpec := { name := "pickOrders", fn := fun _ => fun
  | [d1, d2] => { results := [.lit (.bool true)], args := [d1, d2] }
  | _ => none }
def pickOrdersRow : OpenClaim := { program := "ytfnjomhefklbiaa", sum := "533663da6a44159cfbac0c2a8537b3648ac281414cb1872f33d6a5e55491b3f9", func := "treenail/treenaillaw19.PickOrders", spec := "pickOrders", unfollowed := true, recurses := true, apart := false }
def PickOrdersSaid : Prop := pickOrdersRow.holds Try.pinned (OpenSpec.ofChange pickOrdersSpec)

/-- ITS FALSE NEIGHBOUR: 'it returns false'. Refute it at one input. -/
def pickOrdersWrong : ChangeSpec := { name := "pickOrders", fn := fun _ => fun
  | [d1, d2] => { results := [.lit (.bool false)], args := [d1, d2] }
  | _ => none }
def PickOrdersWrongFalsely : Prop := pickOrdersRow.holds Try.pinned (OpenSpec.ofChange pickOrdersWrong)

/-- 'treenaillaw19.PickMost': WHATEVER THE INPUT: true; the input reads as it did. -/
def pickMostSpec : ChangeSpec := { name := "pickMost", fn := fun _ => fun
  | [d1, d2] => { results := [.lit (.bool true)], args := [d1, d2] }
  | _ => none }
def pickMostRow : OpenClaim := { program := "ytfnjomhefklbiaa", sum := "533663da6a44159cfbac0c2a8537b3648ac281414cb1872f33d6a5e55491b3f9", func := "treenail/treenaillaw19.PickMost", spec := "pickMost", unfollowed := true, recurses := true, apart := false }
def PickMostSaid : Prop := pickMostRow.holds Try.pinned (OpenSpec.ofChange pickMostSpec)

/-- ITS FALSE NEIGHBOUR: 'it returns false'. Refute it at one input. -/
def pickMostWrong : ChangeSpec := { name := "pickMost", fn := fun _ => fun
  | [d1, d2] => { results := [.lit (.bool false)], args := [d1, d2] }
  | _ => none }
def PickMostWrongFalsely : Prop := pickMostRow.holds Try.pinned (OpenSpec.ofChange pickMostWrong)

/-- 'treenaillaw19.PickGrows': WHATEVER THE INPUT: true; the input reads as it did. -/
def pickGrowsSpec : ChangeSpec := { name := "pickGrows", fn := fun _ => fun
  | [d1, d2, d3] => { results := [.lit (.bool true)], args := [d1, d2, d3] }
  | _ => none }
def pickGrowsRow : OpenClaim := { program := "ytfnjomhefklbiaa", sum := "533663da6a44159cfbac0c2a8537b3648ac281414cb1872f33d6a5e55491b3f9", func := "treenail/treenaillaw19.PickGrows", spec := "pickGrows", unfollowed := true, recurses := true, apart := false }
def PickGrowsSaid : Prop := pickGrowsRow.holds Try.pinned (OpenSpec.ofChange pickGrowsSpec)

/-- ITS FALSE NEIGHBOUR: 'it returns false'. Refute it at one input. -/
def pickGrowsWrong : ChangeSpec := { name := "pickGrows", fn := fun _ => fun
  | [d1, d2, d3] => { results := [.lit (.bool false)], args := [d1, d2, d3] }
  | _ => none }
def PickGrowsWrongFalsely : Prop := pickGrowsRow.holds Try.pinned (OpenSpec.ofChange pickGrowsWrong)

/- THE SECOND FORM. 'bulk': how many values and letters a reading holds, each counted each time it is reached (what is shared counts as often as it is met; a slice's spare places count too). A statement '..UptoSaid' is the law's where the arguments, and the package variables that the reading takes, are together of bulk at most 1048576: NARROWER than '..Said'. Prove '..Said' where nothing that the law and all that it calls make is longer than what came in: it says more and counts as full. Else prove '..UptoSaid'. A law counts once. -/
mutual
def uptoBulk {H : Type} : DataW H → Nat
  | .lit (.string bytes) => bytes.length + 1
  | .lit _ => 1
  | .nil => 1
  | .ptr d => uptoBulk d + 1
  | .slice elems spare => uptoBulkAll elems + uptoBulkAll spare + 1
  | .agg parts => uptoBulkAll parts + 1
  | .iface _ d => uptoBulk d + 1
  | .map entries => uptoBulkEntries entries + 1
  | .held _ => 1
def uptoBulkAll {H : Type} : List (DataW H) → Nat
  | [] => 0
  | d :: r => uptoBulk d + uptoBulkAll r
def uptoBulkEntries {H : Type} : List (Lit × DataW H) → Nat
  | [] => 0
  | x :: r => uptoBulkEntry x + uptoBulkEntries r
def uptoBulkEntry {H : Type} : Lit × DataW H → Nat
  | (.string bytes, d) => bytes.length + uptoBulk d + 1
  | (_, d) => uptoBulk d + 1
 end
def uptoSmall : (H : Type) → List (DataW H) → Bool := fun _ ds => decide (uptoBulkAll ds ≤ 1048576)
def OpenSpec.upto (s : _root_.Go.ChangeSpec) : _root_.Go.OpenSpec := { _root_.Go.OpenSpec.ofChange s with cond := some uptoSmall }

/-- 'treenaillaw18.PlanChecks', WHERE WHAT IT READS IS OF BULK AT MOST 1048576: true; the input reads as it did. -/
def planChecksUptoRow : OpenClaim := { program := "ytfnjomhefklbiaa", sum := "533663da6a44159cfbac0c2a8537b3648ac281414cb1872f33d6a5e55491b3f9", func := "treenail/treenaillaw18.PlanChecks", spec := "planChecks", apart := false, narrowed := true }
def PlanChecksUptoSaid : Prop := planChecksUptoRow.holds Try.pinned (OpenSpec.upto planChecksSpec)

/-- 'treenaillaw18.PlanBest', WHERE WHAT IT READS IS OF BULK AT MOST 1048576: true; the input reads as it did. -/
def planBestUptoRow : OpenClaim := { program := "ytfnjomhefklbiaa", sum := "533663da6a44159cfbac0c2a8537b3648ac281414cb1872f33d6a5e55491b3f9", func := "treenail/treenaillaw18.PlanBest", spec := "planBest", apart := false, narrowed := true }
def PlanBestUptoSaid : Prop := planBestUptoRow.holds Try.pinned (OpenSpec.upto planBestSpec)

/-- 'treenaillaw18.PlanMore', WHERE WHAT IT READS IS OF BULK AT MOST 1048576: true; the input reads as it did. -/
def planMoreUptoRow : OpenClaim := { program := "ytfnjomhefklbiaa", sum := "533663da6a44159cfbac0c2a8537b3648ac281414cb1872f33d6a5e55491b3f9", func := "treenail/treenaillaw18.PlanMore", spec := "planMore", apart := false, narrowed := true }
def PlanMoreUptoSaid : Prop := planMoreUptoRow.holds Try.pinned (OpenSpec.upto planMoreSpec)

/-- 'treenaillaw19.PickOrders', WHERE WHAT IT READS IS OF BULK AT MOST 1048576: true; the input reads as it did. -/
def pickOrdersUptoRow : OpenClaim := { program := "ytfnjomhefklbiaa", sum := "533663da6a44159cfbac0c2a8537b3648ac281414cb1872f33d6a5e55491b3f9", func := "treenail/treenaillaw19.PickOrders", spec := "pickOrders", unfollowed := true, recurses := true, apart := false, narrowed := true }
def PickOrdersUptoSaid : Prop := pickOrdersUptoRow.holds Try.pinned (OpenSpec.upto pickOrdersSpec)

/-- 'treenaillaw19.PickMost', WHERE WHAT IT READS IS OF BULK AT MOST 1048576: true; the input reads as it did. -/
def pickMostUptoRow : OpenClaim := { program := "ytfnjomhefklbiaa", sum := "533663da6a44159cfbac0c2a8537b3648ac281414cb1872f33d6a5e55491b3f9", func := "treenail/treenaillaw19.PickMost", spec := "pickMost", unfollowed := true, recurses := true, apart := false, narrowed := true }
def PickMostUptoSaid : Prop := pickMostUptoRow.holds Try.pinned (OpenSpec.upto pickMostSpec)

/-- 'treenaillaw19.PickGrows', WHERE WHAT IT READS IS OF BULK AT MOST 1048576: true; the input reads as it did. -/
def pickGrowsUptoRow : OpenClaim := { program := "ytfnjomhefklbiaa", sum := "533663da6a44159cfbac0c2a8537b3648ac281414cb1872f33d6a5e55491b3f9", func := "treenail/treenaillaw19.PickGrows", spec := "pickGrows", unfollowed := true, recurses := true, apart := false, narrowed := true }
def PickGrowsUptoSaid : Prop := pickGrowsUptoRow.holds Try.pinned (OpenSpec.upto pickGrowsSpec)

end Rows
end Go.Proofs.Ytfnjomhefklbiaa
