/-
  How arguments are opened that are slices of texts.
-/
import Derived.Test.YtlmlmkeomlehmaaZla
import Derived.Test.YtlmlmkeomlehmaaFlm
import Derived.SliceStrings
namespace Go.Proofs.Ytlmlmkeomlehmaa
open Go.ChangeShapes Go.WideShapes Go.ChangeAt Go.RowKit Go.Deep Go.Joins

/-- An argument that is a slice of texts. -/
structure ArgStrs (w : World) (v : Value) (l : List (List UInt8)) : Prop where
  form : ∃ ao c, v = .slice ao l.length c ∧ StrAt w ao l ∧ l.length ≤ c
  size : ∀ s ∈ l, s.length ≤ 140737488355328

theorem open_strs {H : Type} {enc : TypeId × Value → H} {P : Program} {w : World} {base : Nat} {spare : Nat → Bool} {held : Bool} {r : Reach} {b0 : Nat} {t e : TypeId} {v : Value} {d : DataW H} {p : List MemPlace}
    (ht : P.underlying t = some (.slice e)) (he : P.underlying e = some .string) (hc : P.cellsOf e = 1) (hv : Value.okWide P w r b0 t v) (h : DataW.Trod enc P w base spare held t v d p) (hsz : ∀ n ∈ d.weights P t, n ≤ reachBytes) : ∃ l, ArgStrs w v l := by
  obtain ⟨a, len, cap, rfl⟩ := okWide_slice ht hv
  obtain ⟨fuel, hf⟩ := h
  rcases open_strings ht he hc hf with ⟨hcs, -⟩ | ⟨a', len', cap', ss, hcs, -, hl, hm, hz, hx, hcell, hws⟩
  · simp only [Value.cells, List.cons.injEq, and_true, Value.slice.injEq] at hcs
    obtain ⟨rfl, rfl, rfl⟩ := hcs
    exact ⟨[], ⟨none, 0, rfl, Or.inl rfl, Nat.le_refl _⟩, fun x hx => by simp at hx⟩
  · simp only [Value.cells, List.cons.injEq, and_true, Value.slice.injEq] at hcs
    obtain ⟨rfl, rfl, rfl⟩ := hcs
    simp only [Prod.mk.injEq] at hx
    obtain ⟨rfl, rfl⟩ := hx
    have hlz : len ≤ ss.length := by rw [hz]; split <;> omega
    have hlen : ((ss.take len).map fun s => s.data.toList).length = len := by rw [List.length_map, List.length_take]; omega
    refine ⟨(ss.take len).map fun s => s.data.toList, ⟨some a', cap, by rw [hlen], ?_, by rw [hlen]; exact hl⟩, fun x hx => ?_⟩
    · by_cases h0 : 0 < len
      · have hc0 := hcell 0 (by omega)
        obtain ⟨b, off, spot⟩ := a'
        have hspot : spot = none := by simpa [Addr.add] using World.cell?_spot hc0
        subst hspot
        refine Or.inr ⟨b, off, rfl, World.block_lt_of_cell? w _ hc0, fun i hi j x hx => ?_⟩
        have hj : j = 0 := by
          have := (List.getElem?_eq_some_iff.1 hx).1
          simpa using this
        subst hj
        rw [hlen] at hi
        have h1 := hcell i (by omega)
        rw [Go.WideShapes.add_plain] at h1
        rw [show off + i * 1 + 0 = off + i by omega, h1, ← hx]
        have hi' : i < ss.length := by omega
        simp [hi', S]
      · exact Or.inl (List.eq_nil_of_length_eq_zero (by omega))
    · obtain ⟨s, hs, rfl⟩ := List.mem_map.1 hx
      have h1 := hsz s.data.toList.length (by
        simp only [DataW.weights, ht, List.mem_cons, List.mem_append]
        refine Or.inr (Or.inl (weights_mem_all (d := .lit (.string s.data.toList)) ?_ _ ?_))
        · unfold strs; exact List.mem_map.2 ⟨s, hs, rfl⟩
        · simp [DataW.weights])
      have := reachBytes_lt
      omega

end Go.Proofs.Ytlmlmkeomlehmaa
