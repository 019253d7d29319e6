/-
  The plain law of the first ones: each is a place, no two alike, and none that is left out is ahead of one of them; the first one has at least its share.
-/
import Derived.Test.YtfnjomhefklbiaaPickO0
namespace Go.Proofs.Ytfnjomhefklbiaa
open Go.RowKit

theorem pairs_mem {C : List Int} {i : Nat} (h : i < C.length) : ((i : Int), C[i]) ∈ pairs C := by
  have h' : i < (pairs C).length := by rwa [pairs_length]
  have := List.getElem_mem h'
  rwa [pairs_get] at this
theorem pairs_inv {C : List Int} {q : Int × Int} (h : q ∈ pairs C) : ∃ (i : Nat) (hi : i < C.length), q = ((i : Int), C[i]) := by
  obtain ⟨i, hi, e⟩ := List.getElem_of_mem h
  rw [pairs_get] at e
  exact ⟨i, by rwa [pairs_length] at hi, e.symm⟩
theorem pairs_nodup (C : List Int) : ((pairs C).map Prod.fst).Nodup := by
  rw [List.Nodup, List.pairwise_iff_getElem]
  intro i j hi hj hij
  simp only [List.getElem_map, pairs_get]
  omega
theorem ord_nodup (C : List Int) : ((ordP C).map Prod.fst).Nodup := ((ordP_spec C).1.map Prod.fst).nodup_iff.2 (pairs_nodup C)
theorem topL_nodup (C : List Int) (n : Nat) : (topL C n).Nodup := by
  rw [topL_eq]; exact (ord_nodup C).sublist (List.take_sublist _ _)
theorem topL_len (C : List Int) (n : Nat) : (topL C n).length = min n C.length := by
  rw [topL_eq, List.length_take, List.length_map, ordP_length]
theorem topL_is {C : List Int} {n : Nat} {t : Int} (h : t ∈ topL C n) : ∃ (k : Nat) (hk : k < C.length), t = k ∧ ((k : Int), C[k]) ∈ (ordP C).take n := by
  rw [topL_eq, ← List.map_take, List.mem_map] at h
  obtain ⟨q, hq, rfl⟩ := h
  obtain ⟨k, hk, rfl⟩ := pairs_inv ((ordP_spec C).1.subset (List.mem_of_mem_take hq))
  exact ⟨k, hk, rfl, hq⟩
theorem topL_best {C : List Int} {n i k : Nat} (hi : i < C.length) (hk : k < C.length) (hin : (k : Int) ∈ topL C n) (hout : (i : Int) ∉ topL C n) : Leq ((k : Int), C[k]) ((i : Int), C[i]) := by
  obtain ⟨k', hk', e, hq⟩ := topL_is hin
  obtain rfl : k = k' := by omega
  have hi' : ((i : Int), C[i]) ∈ ordP C := (ordP_spec C).1.symm.subset (pairs_mem hi)
  rw [← List.take_append_drop n (ordP C)] at hi'
  rcases List.mem_append.1 hi' with h | h
  · exact absurd (by rw [topL_eq, ← List.map_take, List.mem_map]; exact ⟨_, h, rfl⟩) hout
  · have hp := (ordP_spec C).2
    rw [← List.take_append_drop n (ordP C), List.pairwise_append] at hp
    exact hp.2.2 _ hq _ h
theorem topL_not {C : List Int} {n i k : Nat} (hi : i < C.length) (hk : k < C.length) (hin : (k : Int) ∈ topL C n) (hout : (i : Int) ∉ topL C n) : C[i] ≤ C[k] ∧ (C[i] = C[k] → k ≤ i) := by
  have h := topL_best hi hk hin hout
  unfold Leq at h
  rw [ahead_iff] at h
  simp only at h
  omega
theorem top_one (C : List Int) (h : 0 < C.length) : ∃ k : Nat, ∃ hk : k < C.length, topL C 1 = [(k : Int)] ∧ ∀ x ∈ C, x ≤ C[k] := by
  obtain ⟨k, hk, r, hr⟩ := topHead C h
  refine ⟨k, hk, by rw [topL_eq, hr]; rfl, fun x hx => ?_⟩
  obtain ⟨i, hi, rfl⟩ := List.getElem_of_mem hx
  by_cases e : (i : Int) ∈ topL C 1
  · rw [topL_eq, hr] at e
    simp at e
    obtain rfl : i = k := by omega
    exact Int.le_refl _
  · exact (topL_not hi hk (by rw [topL_eq, hr]; simp) e).1

/-- All together. -/
def sumL (l : List Int) : Int := l.foldl (· + ·) 0
theorem sumL_snoc (l : List Int) (x : Int) : sumL (l ++ [x]) = sumL l + x := by simp [sumL]
theorem foldl_le (m : Int) : ∀ (l : List Int) (a : Int), (∀ x ∈ l, x ≤ m) → l.foldl (· + ·) a ≤ a + m * l.length
  | [], a, _ => by simp
  | x :: l, a, h => by
    have := foldl_le m l (a + x) (fun y hy => h y (by simp [hy]))
    have hx := h x (by simp)
    simp only [List.foldl_cons, List.length_cons]
    have e : m * ((l.length + 1 : Nat) : Int) = m * l.length + m := by rw [Int.natCast_add, Int.mul_add]; simp
    omega
theorem foldl_ge : ∀ (l : List Int) (a : Int), (∀ x ∈ l, 0 ≤ x) → a ≤ l.foldl (· + ·) a ∧ ∀ x ∈ l, a + x ≤ l.foldl (· + ·) a
  | [], a, _ => by simp
  | x :: l, a, h => by
    obtain ⟨h1, h2⟩ := foldl_ge l (a + x) (fun y hy => h y (by simp [hy]))
    have hx := h x (by simp)
    refine ⟨by simp only [List.foldl_cons]; omega, fun y hy => ?_⟩
    rcases List.mem_cons.1 hy with rfl | hy
    · exact h1
    · have := h2 y hy
      simp only [List.foldl_cons]; omega
theorem sumL_le {l : List Int} {m : Int} (h : ∀ x ∈ l, x ≤ m) : sumL l ≤ m * l.length := by
  have := foldl_le m l 0 h
  unfold sumL; omega
theorem sumL_ge {l : List Int} (h : ∀ x ∈ l, 0 ≤ x) : 0 ≤ sumL l ∧ ∀ x ∈ l, x ≤ sumL l := by
  have := foldl_ge l 0 h
  unfold sumL
  exact ⟨this.1, fun x hx => by have := this.2 x hx; omega⟩
/-- The greatest one is at least one just where all together are more than none. -/
theorem sumL_pos {C : List Int} {k : Nat} (hk : k < C.length) (h0 : ∀ x ∈ C, 0 ≤ x) (hm : ∀ x ∈ C, x ≤ C[k]) : (¬ C[k] < 1 ↔ 0 < sumL C) ∧ sumL C ≤ C[k] * C.length := by
  have h1 := sumL_le hm
  obtain ⟨h2, h3⟩ := sumL_ge h0
  have h4 := h3 _ (List.getElem_mem hk)
  have h5 := h0 _ (List.getElem_mem hk)
  refine ⟨⟨fun h => by omega, fun h e => ?_⟩, h1⟩
  have : C[k] = 0 := by omega
  rw [this, Int.zero_mul] at h1
  omega

theorem sum_bound (l : List Int) (h : ∀ x ∈ l, 0 ≤ x ∧ x < 256) : 0 ≤ sumL l ∧ sumL l ≤ 256 * l.length :=
  ⟨(sumL_ge fun x hx => (h x hx).1).1, sumL_le fun x hx => by have := h x hx; omega⟩

/-- Fullest of any counts. -/
theorem fullest_any (ao : Option Addr) (c : Nat) (C : List Int) (w : World) (hI : IntsAt w ao C) (hl : C.length ≤ 1000000) (h0 : ∀ x ∈ C, 0 ≤ x) :
    Calls Try.prog 21 #[.slice ao C.length c] w fun e w' => (sumL C = 0 ∧ e = .returned (.tuple #[.int .i64 0, .bool false]) ∨ ∃ k : Nat, ∃ hk : k < C.length, e = .returned (.tuple #[.int .i64 k, .bool true]) ∧ 0 < sumL C ∧ sumL C ≤ C[k] * C.length) ∧ Below w.heap.size w w' := by
  by_cases h : 0 < C.length
  · obtain ⟨k, hk, h1, hm⟩ := top_one C h
    obtain ⟨hp, hs⟩ := sumL_pos hk h0 hm
    refine (fullest_all ao c C w hI hl k h1 hk).mono ?_
    rintro e w' ⟨rfl, hb⟩
    refine ⟨?_, hb⟩
    by_cases hc : C[k] < 1
    · rw [if_pos hc]
      have h2 := (sumL_ge h0).1
      have h3 : ¬ 0 < sumL C := fun h => hp.2 h hc
      exact Or.inl ⟨by omega, rfl⟩
    · rw [if_neg hc]
      exact Or.inr ⟨k, hk, rfl, hp.1 hc, hs⟩
  · obtain rfl : C = [] := List.eq_nil_of_length_eq_zero (by omega)
    refine (fullest_none ao c w).mono ?_
    rintro e w' ⟨rfl, hb⟩
    exact ⟨Or.inl ⟨rfl, rfl⟩, hb⟩

/-- A byte as a count. -/
abbrev BytesAt (w : World) (ao : Option Addr) (l : List Int) : Prop := SlAt (fun x : Int => [Value.int .u8 x]) 1 w ao l
/-- A slice of bytes, as an argument. -/
structure ArgBytes (w : World) (v : Value) (l : List Int) : Prop where
  form : ∃ ao c, v = .slice ao l.length c ∧ BytesAt w ao l ∧ l.length ≤ c ∧ (c : Int) ≤ 9223372036854775807 ∧ (ao = none → c = 0)
  rng : ∀ x ∈ l, 0 ≤ x ∧ x < 256

end Go.Proofs.Ytfnjomhefklbiaa
