/-
  What the statements' proofs share: how arguments are opened.
  How slices of ints and of bytes are opened, as arguments.
-/
import Derived.Test.YtblleinahlaohaaZa
import Derived.ProofKit
import Derived.OpenShut
import Derived.ShutString
import Derived.ChangeOld
import Derived.SizedLaws
import Derived.Lib.SmallJoins
namespace Go.Proofs.Ytblleinahlaohaa
open Go.ChangeShapes Go.WideShapes Go.ChangeAt Go.RowKit

section
variable {H : Type} {enc : TypeId × Value → H} {P : Program} {w : World} {base : Nat} {spare : Nat → Bool} {held : Bool}
theorem open_arr3 {r : Reach} {b0 : Nat} {t e : TypeId} {v : Value} {d : DataW H} {p : List MemPlace} (ht : P.underlying t = some (.array 3 e)) (he : P.underlying e = some (.int .i64)) (hC : P.cellsOf t = 3) (hE : P.cellsOf e = 1)
    (hv : Value.okWide P w r b0 t v) (h : DataW.Trod enc P w base spare held t v d p) : ∃ a b c, v = .agg #[.int .i64 a, .int .i64 b, .int .i64 c] := by
  unfold Value.okWide at hv
  rw [ht] at hv
  obtain ⟨cs, rfl, hsz, -⟩ := hv
  obtain ⟨c0, c1, c2, rfl⟩ := Joins.array3 (hsz.trans hC)
  obtain ⟨fuel, hf⟩ := h
  obtain ⟨xs, m, -, -, -, hl, hx⟩ := DataW.trod_array ht hf
  simp only [Value.cells, hE] at hx
  match xs, hl with
  | [x0, x1, x2], _ =>
    have e0 := hx 0 (by omega)
    have e1 := hx 1 (by omega)
    have e2 := hx 2 (by omega)
    simp at e0 e1 e2
    obtain ⟨a, ha, -, -⟩ := DataW.trod_int he e0
    obtain ⟨b, hb, -, -⟩ := DataW.trod_int he e1
    obtain ⟨c, hc, -, -⟩ := DataW.trod_int he e2
    simp at ha hb hc
    subst ha hb hc
    exact ⟨a, b, c, rfl⟩
end

end Go.Proofs.Ytblleinahlaohaa

namespace Go.Proofs.Ytblleinahlaohaa
open Go.ChangeShapes Go.WideShapes Go.ChangeAt Go.RowKit

/-- A slice of numbers of one kind, as an argument. -/
structure ArgNums (k : IntKind) (w : World) (v : Value) (l : List Int) : Prop where
  form : ∃ ao c, v = .slice ao l.length c ∧ SlAt (fun x : Int => [Value.int k x]) 1 w ao l ∧ l.length ≤ c ∧ (c : Int) ≤ 9223372036854775807 ∧ (ao = none → c = 0)
  wf : ∀ x ∈ l, (Lit.int k x).wf = true

theorem open_nums {H : Type} {enc : TypeId × Value → H} {P : Program} {w : World} {base : Nat} {spare : Nat → Bool} {held : Bool} {r : Reach} {b0 : Nat} {k : IntKind} {t e : TypeId} {v : Value} {d : DataW H} {p : List MemPlace}
    (ht : P.underlying t = some (.slice e)) (he : P.underlying e = some (.int k)) (hc : P.cellsOf e = 1) (hv : Value.okWide P w r b0 t v) (h : DataW.Trod enc P w base spare held t v d p) : ∃ l, ArgNums k w v l := by
  obtain ⟨a, len, cap, rfl⟩ := okWide_slice ht hv
  obtain ⟨fuel, hf⟩ := h
  rcases open_ints ht he hc hf with ⟨hcs, -⟩ | ⟨a', len', cap', zs, hcs, -, hl, hm, hz, -, hcell, hwz⟩
  · simp only [Value.cells, List.cons.injEq, and_true, Value.slice.injEq] at hcs
    obtain ⟨rfl, rfl, rfl⟩ := hcs
    exact ⟨[], ⟨none, 0, rfl, Or.inl rfl, Nat.le_refl _, by omega, fun _ => rfl⟩, fun x hx => by simp at hx⟩
  · simp only [Value.cells, List.cons.injEq, and_true, Value.slice.injEq] at hcs
    obtain ⟨rfl, rfl, rfl⟩ := hcs
    have hlz : len ≤ zs.length := by rw [hz]; split <;> omega
    have hlen : (zs.take len).length = len := by rw [List.length_take]; omega
    refine ⟨zs.take len, ⟨some a', cap, by rw [hlen], ?_, by rw [hlen]; exact hl, by unfold maxLen at hm; omega, fun e => by simp at e⟩, fun x hx => hwz x (List.mem_of_mem_take hx)⟩
    by_cases h0 : 0 < len
    · obtain ⟨b, off, rfl, hc'⟩ := ints_at hcell (by omega)
      refine Or.inr ⟨b, off, rfl, World.block_lt_of_cell? w _ (hc' 0 (by omega)), fun i hi j x hx => ?_⟩
      have hj : j = 0 := by
        have := (List.getElem?_eq_some_iff.1 hx).1
        simpa using this
      subst hj
      rw [hlen] at hi
      have := hc' i (by omega)
      rw [show off + i * 1 + 0 = off + i by omega, this, ← hx]
      have : i < zs.length := by omega
      simp [this]
    · exact Or.inl (List.eq_nil_of_length_eq_zero (by omega))

end Go.Proofs.Ytblleinahlaohaa
