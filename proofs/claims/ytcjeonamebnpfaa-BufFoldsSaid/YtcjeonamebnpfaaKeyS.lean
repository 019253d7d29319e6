/-
  A call's own map of texts to bools, told as the list of its keys.
-/
import Derived.Test.YtcjeonamebnpfaaMapB
import Derived.Test.YtcjeonamebnpfaaStr
namespace Go.Proofs.Ytcjeonamebnpfaa
open Go.RowKit

/-- Is it one of these keys? -/
def inK (l : List (List UInt8)) : Lit → Bool
  | .string x => decide (x ∈ l)
  | _ => false
theorem inK_nil : (fun _ : Lit => false) = inK [] := by
  funext l
  unfold inK
  split <;> simp
theorem inK_new (l : List (List UInt8)) (x : List UInt8) : inK (l ++ [x]) (.string x) = true := by simp [inK]
theorem inK_old (l : List (List UInt8)) (x : List UInt8) (y : Lit) (h : y ≠ .string x) : inK (l ++ [x]) y = inK l y := by
  unfold inK
  split
  · rename_i z
    have : z ≠ x := fun e => h (by rw [e])
    simp [this]
  · rfl
abbrev KeyS (w : World) (b n : Nat) (l : List (List UInt8)) : Prop := SetAt Try.prog 9 4 w b n (inK l)
theorem KeyS.start (w : World) : KeyS (w.alloc (.map #[] 0)) w.heap.size 0 [] := by
  have h := SetAt.made Try.prog 9 4 w
  rw [inK_nil] at h
  exact h
theorem zero_bool (w : World) : (zeroValue 4).run Try.prog w = .ok (.bool false) w := by kernel_rfl
theorem str_key (x : List UInt8) (hx : x.length ≤ 1000) : keyOf Try.prog 9 (.string (S x)) = some (.string x) := by
  have h := WideMaps.keyOf_string_mk (P := Try.prog) (k := 9) Try.underlying9 (s := S x) (by rw [S_size]; unfold maxLen; omega)
  rwa [S_data] at h
theorem KeyS.look {w : World} {b n : Nat} {l : List (List UInt8)} (h : KeyS w b n l) (x : List UInt8) (hx : x.length ≤ 1000) : (Instr.lookup 25 (.map (some b)) (.string (S x)) false).run Try.prog w = .ok (.bool (decide (x ∈ l))) w :=
  SetAt.look h (Maps.string_keyed Try.underlying9) Try.underlying25 Try.underlying4 (zero_bool w) (str_key x hx) trivial

end Go.Proofs.Ytcjeonamebnpfaa
