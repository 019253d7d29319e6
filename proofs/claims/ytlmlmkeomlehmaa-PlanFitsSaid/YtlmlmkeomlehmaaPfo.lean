/-
  How an argument is opened that is an array of two ints.
-/
import Derived.Test.YtlmlmkeomlehmaaZla
namespace Go.Proofs.Ytlmlmkeomlehmaa
open Go.ChangeShapes Go.WideShapes Go.ChangeAt Go.RowKit

theorem open_arr2 {H : Type} {enc : TypeId × Value → H} {P : Program} {w : World} {base : Nat} {spare : Nat → Bool} {held : Bool} {r : Reach} {b0 : Nat} {t e : TypeId} {v : Value} {d : DataW H} {p : List MemPlace} (ht : P.underlying t = some (.array 2 e)) (he : P.underlying e = some (.int .i64)) (hC : P.cellsOf t = 2) (hE : P.cellsOf e = 1)
    (hv : Value.okWide P w r b0 t v) (h : DataW.Trod enc P w base spare held t v d p) : ∃ a b : Int, v = .agg #[.int .i64 a, .int .i64 b] := by
  unfold Value.okWide at hv
  rw [ht] at hv
  obtain ⟨cs, rfl, hsz, -⟩ := hv
  obtain ⟨c0, c1, rfl⟩ : ∃ c0 c1, cs = #[c0, c1] := by
    have h2 : cs.size = 2 := hsz.trans hC
    obtain ⟨l⟩ := cs
    match l, h2 with
    | [a, b], _ => exact ⟨a, b, rfl⟩
  obtain ⟨fuel, hf⟩ := h
  obtain ⟨xs, m, -, -, -, hl, hx⟩ := DataW.trod_array ht hf
  simp only [Value.cells, hE] at hx
  match xs, hl with
  | [x0, x1], _ =>
    have e0 := hx 0 (by omega)
    have e1 := hx 1 (by omega)
    simp at e0 e1
    obtain ⟨a, ha, -, -⟩ := DataW.trod_int he e0
    obtain ⟨b, hb, -, -⟩ := DataW.trod_int he e1
    simp at ha hb
    subst ha hb
    exact ⟨a, b, rfl⟩

end Go.Proofs.Ytlmlmkeomlehmaa
