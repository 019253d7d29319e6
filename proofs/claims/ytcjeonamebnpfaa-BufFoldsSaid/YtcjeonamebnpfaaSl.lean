/-
  A slice that is only read: where its elements' cells lie. 'SlAt enc k w ao l': the elements l, each of k cells 'enc x', lie behind the address ao (of which nothing is said where there is no element).
-/
import Derived.Test.YtcjeonamebnpfaaStr
namespace Go.Proofs.Ytcjeonamebnpfaa
open Go.RowKit

def SlAt {α : Type} (enc : α → List Value) (k : Nat) (w : World) (ao : Option Addr) (l : List α) : Prop :=
  l = [] ∨ ∃ b off, ao = some ⟨b, off, none⟩ ∧ b < w.heap.size ∧ ∀ (i : Nat) (hi : i < l.length) (j : Nat) (x : Value), (enc l[i])[j]? = some x → w.cell? ⟨b, off + i * k + j, none⟩ = some x

section
variable {α : Type} {enc : α → List Value} {k : Nat} {w : World} {ao : Option Addr} {l : List α}
theorem SlAt.nil (enc : α → List Value) (k : Nat) (w : World) (ao : Option Addr) : SlAt enc k w ao [] := Or.inl rfl
theorem SlAt.at (h : SlAt enc k w ao l) (hl : 0 < l.length) : ∃ b off, ao = some ⟨b, off, none⟩ ∧ b < w.heap.size ∧ ∀ (i : Nat) (hi : i < l.length) (j : Nat) (x : Value), (enc l[i])[j]? = some x → w.cell? ⟨b, off + i * k + j, none⟩ = some x := by
  rcases h with rfl | h
  · simp at hl
  · exact h
theorem SlAt.kept (h : SlAt enc k w ao l) {w' : World} {B : Nat} (hb : Below B w w') (hB : w.heap.size ≤ B) : SlAt enc k w' ao l := by
  rcases h with rfl | ⟨b, off, rfl, hlt, hc⟩
  · exact Or.inl rfl
  · exact Or.inr ⟨b, off, rfl, Nat.lt_of_lt_of_le hlt hb.size, fun i hi j x hx => (hb.cell (p := ⟨b, off + i * k + j, none⟩) (Nat.lt_of_lt_of_le hlt hB)).trans (hc i hi j x hx)⟩
theorem SlAt.keptAt (h : SlAt enc k w ao l) {w' : World} (hs : w.heap.size ≤ w'.heap.size) (hc : ∀ b o, b < w.heap.size → w'.cell? ⟨b, o, none⟩ = w.cell? ⟨b, o, none⟩) : SlAt enc k w' ao l := by
  rcases h with rfl | ⟨b, off, rfl, hlt, hcc⟩
  · exact Or.inl rfl
  · exact Or.inr ⟨b, off, rfl, Nat.lt_of_lt_of_le hlt hs, fun i hi j x hx => (hc b _ hlt).trans (hcc i hi j x hx)⟩
theorem SlAt.cut (h : SlAt enc k w ao l) (n : Nat) : SlAt enc k w ao (l.take n) := by
  rcases h with rfl | ⟨b, off, rfl, hlt, hc⟩
  · exact Or.inl (by simp)
  · refine Or.inr ⟨b, off, rfl, hlt, fun i hi j x hx => hc i (by simp at hi; omega) j x ?_⟩
    simpa using hx
theorem SlAt.drop (h : SlAt enc k w ao l) (n : Nat) (b off : Nat) (ha : ao = some ⟨b, off, none⟩) : SlAt enc k w (some ⟨b, off + n * k, none⟩) (l.drop n) := by
  rcases h with rfl | ⟨b', off', h', hlt, hc⟩
  · exact Or.inl (by simp)
  · rw [ha] at h'
    obtain ⟨rfl, rfl⟩ : b = b' ∧ off = off' := by simpa using h'
    refine Or.inr ⟨b, _, rfl, hlt, fun i hi j x hx => ?_⟩
    have hi' : n + i < l.length := by simp at hi; omega
    have := hc (n + i) hi' j x (by simpa using hx)
    rw [show off + n * k + i * k + j = off + (n + i) * k + j by rw [Nat.add_mul]; omega]
    exact this
/-- A row that was just laid. -/
theorem SlAt.new (w : World) (c : Array Value) (e : TypeId) (fz : Nat × Nat) (l : List α) (hlen : ∀ x ∈ l, (enc x).length = k) (hc : c.toList = l.flatMap enc) : SlAt enc k (w.alloc (.cells c e fz)) (some ⟨w.heap.size, 0, none⟩) l := by
  refine Or.inr ⟨w.heap.size, 0, rfl, by simp, fun i hi j x hx => ?_⟩
  rw [cell_new, ← Array.getElem?_toList, hc]
  have key : ∀ (l : List α) (i : Nat) (hi : i < l.length), (∀ x ∈ l, (enc x).length = k) → ∀ j x, (enc l[i])[j]? = some x → (l.flatMap enc)[0 + i * k + j]? = some x := by
    intro l
    induction l with
    | nil => intro i hi; simp at hi
    | cons a t ih =>
      intro i hi hlen j x hx
      have ha := hlen a (by simp)
      cases i with
      | zero =>
        simp only [List.flatMap_cons, Nat.zero_mul, Nat.zero_add]
        have hj : j < (enc a).length := (List.getElem?_eq_some_iff.1 hx).1
        rw [List.getElem?_append_left hj]
        exact hx
      | succ i =>
        simp only [List.flatMap_cons]
        rw [List.getElem?_append_right (by rw [ha, Nat.add_mul]; omega)]
        have := ih i (by simpa using hi) (fun x hx => hlen x (by simp [hx])) j x (by simpa using hx)
        rw [← this, ha]
        congr 1
        rw [Nat.add_mul]; omega
  exact key l i hi hlen j x hx
end

end Go.Proofs.Ytcjeonamebnpfaa
