/-
  The order of texts, and lists by rising keys: plain laws, no program in sight.
-/
import Derived.Test.YtcjeonamebnpfaaStr
namespace Go.Proofs.Ytcjeonamebnpfaa
open Go.RowKit

/-- Is one text ahead of another one? -/
abbrev bl (a b : List UInt8) : Bool := Op.bytesLess a b

theorem bl_irrefl : ∀ a, bl a a = false
  | [] => rfl
  | x :: a => by simp [bl, Op.bytesLess, bl_irrefl a]
theorem bl_nil (a : List UInt8) : bl a [] = false := by cases a <;> rfl
theorem bl_cons (x y : UInt8) (a b : List UInt8) : bl (x :: a) (y :: b) = true ↔ x < y ∨ (x = y ∧ bl a b = true) := by
  simp only [bl, Op.bytesLess]
  by_cases h : x = y
  · subst h; simp
  · simp [h]
theorem bl_trans : ∀ {a b c : List UInt8}, bl a b = true → bl b c = true → bl a c = true
  | a, b, [], _, h => by rw [bl_nil] at h; exact absurd h (by simp)
  | a, [], z :: c, h, _ => by rw [bl_nil] at h; exact absurd h (by simp)
  | [], y :: b, z :: c, _, _ => rfl
  | x :: a, y :: b, z :: c, h, k => by
    rw [bl_cons] at *
    rcases h with h | ⟨rfl, h⟩ <;> rcases k with k | ⟨rfl, k⟩
    · exact Or.inl (UInt8.lt_trans h k)
    · exact Or.inl h
    · exact Or.inl k
    · exact Or.inr ⟨rfl, bl_trans h k⟩
theorem bl_tri : ∀ (a b : List UInt8), a = b ∨ bl a b = true ∨ bl b a = true
  | [], [] => Or.inl rfl
  | [], _ :: _ => Or.inr (Or.inl rfl)
  | _ :: _, [] => Or.inr (Or.inr rfl)
  | x :: a, y :: b => by
    rw [bl_cons, bl_cons]
    rcases Nat.lt_trichotomy x.toNat y.toNat with h | h | h
    · exact Or.inr (Or.inl (Or.inl h))
    · have e : x = y := UInt8.toNat_inj.1 h
      subst e
      rcases bl_tri a b with rfl | k | k
      · exact Or.inl rfl
      · exact Or.inr (Or.inl (Or.inr ⟨rfl, k⟩))
      · exact Or.inr (Or.inr (Or.inr ⟨rfl, k⟩))
    · exact Or.inr (Or.inr (Or.inl h))
theorem bl_asymm {a b : List UInt8} (h : bl a b = true) : bl b a = false := by
  cases k : bl b a with
  | false => rfl
  | true => have := bl_trans h k; rw [bl_irrefl] at this; exact absurd this (by simp)
theorem bl_ne {a b : List UInt8} (h : bl a b = true) : a ≠ b := fun e => by rw [e, bl_irrefl] at h; exact absurd h (by simp)
theorem bl_not {a b : List UInt8} (h : bl a b = false) : b = a ∨ bl b a = true := by
  rcases bl_tri a b with e | k | k
  · exact Or.inl e.symm
  · rw [h] at k; exact absurd k (by simp)
  · exact Or.inr k

/-! ### lists by rising keys -/
section
variable {α : Type} (key : α → List UInt8)
/-- By rising keys, no two alike. -/
def Rising (l : List α) : Prop := l.Pairwise fun a b => bl (key a) (key b) = true
/-- How many are below a key. -/
def below (l : List α) (k : List UInt8) : Nat := l.countP fun a => bl (key a) k

variable {key}
theorem Rising.cons {a : α} {l : List α} (h : Rising key (a :: l)) : (∀ b ∈ l, bl (key a) (key b) = true) ∧ Rising key l := List.pairwise_cons.1 h
theorem below_le (l : List α) (k : List UInt8) : below key l k ≤ l.length := List.countP_le_length
/-- In a rising list just the first ones are below a key. -/
theorem Rising.below {l : List α} (h : Rising key l) (k : List UInt8) : ∀ (i : Nat) (hi : i < l.length), bl (key l[i]) k = true ↔ i < below key l k := by
  induction l with
  | nil => intro i hi; simp at hi
  | cons a l ih =>
    obtain ⟨h1, h2⟩ := h.cons
    intro i hi
    by_cases ha : bl (key a) k = true
    · have e : Ytcjeonamebnpfaa.below key (a :: l) k = Ytcjeonamebnpfaa.below key l k + 1 := by simp [Ytcjeonamebnpfaa.below, ha]
      rw [e]
      cases i with
      | zero => simp [ha]
      | succ i => simpa using ih h2 i (by simpa using hi)
    · have e0 : Ytcjeonamebnpfaa.below key l k = 0 := by
        rw [Ytcjeonamebnpfaa.below, List.countP_eq_zero]
        intro b hb hbk
        exact ha (bl_trans (h1 b hb) hbk)
      have e : Ytcjeonamebnpfaa.below key (a :: l) k = 0 := by
        rw [Ytcjeonamebnpfaa.below, List.countP_cons, if_neg ha]
        exact e0
      rw [e]
      cases i with
      | zero => simp [ha]
      | succ i =>
        refine ⟨fun hb => absurd (bl_trans (h1 _ (List.getElem_mem (by simpa using hi))) ?_) ha, fun hb => by omega⟩
        simpa using hb
theorem Rising.lt {l : List α} (h : Rising key l) {i j : Nat} (hij : i < j) (hj : j < l.length) : bl (key (l[i]'(by omega))) (key l[j]) = true := List.pairwise_iff_getElem.1 h i j (by omega) hj hij
/-- Is a key there? -/
def hasKey (key : α → List UInt8) (l : List α) (k : List UInt8) : Bool := l.any fun a => key a == k
theorem hasKey_iff {l : List α} {k : List UInt8} : hasKey key l k = true ↔ ∃ a ∈ l, key a = k := by simp [hasKey]
theorem Rising.found {l : List α} (h : Rising key l) (k : List UInt8) : hasKey key l k = true ↔ ∃ hi : Ytcjeonamebnpfaa.below key l k < l.length, key (l[Ytcjeonamebnpfaa.below key l k]'hi) = k := by
  rw [hasKey_iff]
  constructor
  · rintro ⟨a, ha, rfl⟩
    obtain ⟨i, hi, rfl⟩ := List.getElem_of_mem ha
    have h1 : ¬ i < Ytcjeonamebnpfaa.below key l (key l[i]) := by rw [← h.below _ i hi, bl_irrefl]; simp
    have h2 : ¬ Ytcjeonamebnpfaa.below key l (key l[i]) < i := fun hlt => by
      have := (h.below (key l[i]) _ (by omega)).1 (h.lt hlt hi)
      omega
    have e : Ytcjeonamebnpfaa.below key l (key l[i]) = i := by omega
    exact ⟨by omega, by simp [e]⟩
  · rintro ⟨hi, e⟩
    exact ⟨_, List.getElem_mem hi, e⟩
end

end Go.Proofs.Ytcjeonamebnpfaa
