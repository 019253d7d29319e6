/-
  What the statements' proofs share: how arguments are opened.
-/
import Derived.Test.YtcjeonamebnpfaaKit
import Derived.ProofKit
import Derived.OpenShut
import Derived.ShutString
import Derived.ChangeOld
import Derived.SizedLaws
import Derived.Lib.SmallJoins
namespace Go.Proofs.Ytcjeonamebnpfaa
open Go.ChangeShapes Go.WideShapes Go.ChangeAt Go.RowKit

section
variable {H : Type} {enc : TypeId × Value → H} {P : Program} {w : World} {base : Nat} {spare : Nat → Bool} {held : Bool}
theorem open_arr3 {r : Reach} {b0 : Nat} {t e : TypeId} {v : Value} {d : DataW H} {p : List MemPlace} (ht : P.underlying t = some (.array 3 e)) (he : P.underlying e = some (.int .i64)) (hC : P.cellsOf t = 3) (hE : P.cellsOf e = 1)
    (hv : Value.okWide P w r b0 t v) (h : DataW.Trod enc P w base spare held t v d p) : ∃ a b c, v = .agg #[.int .i64 a, .int .i64 b, .int .i64 c] := by
  unfold Value.okWide at hv
  rw [ht] at hv
  obtain ⟨cs, rfl, hsz, -⟩ := hv
  obtain ⟨c0, c1, c2, rfl⟩ := Joins.array3 (hsz.trans hC)
  obtain ⟨fuel, hf⟩ := h
  obtain ⟨xs, m, -, -, -, hl, hx⟩ := DataW.trod_array ht hf
  simp only [Value.cells, hE] at hx
  match xs, hl with
  | [x0, x1, x2], _ =>
    have e0 := hx 0 (by omega)
    have e1 := hx 1 (by omega)
    have e2 := hx 2 (by omega)
    simp at e0 e1 e2
    obtain ⟨a, ha, -, -⟩ := DataW.trod_int he e0
    obtain ⟨b, hb, -, -⟩ := DataW.trod_int he e1
    obtain ⟨c, hc, -, -⟩ := DataW.trod_int he e2
    simp at ha hb hc
    subst ha hb hc
    exact ⟨a, b, c, rfl⟩
end

end Go.Proofs.Ytcjeonamebnpfaa
