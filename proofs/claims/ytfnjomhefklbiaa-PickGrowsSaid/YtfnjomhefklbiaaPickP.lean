/-
  The plain law of layer 19: what is taken off a heap is sorted.
-/
import Derived.Test.YtfnjomhefklbiaaPickT
namespace Go.Proofs.Ytfnjomhefklbiaa
open Go.RowKit

theorem ahead_iff (a b : Int × Int) : ahead a b = true ↔ (b.2 < a.2 ∨ (a.2 = b.2 ∧ a.1 < b.1)) := by simp [ahead]
theorem ahead_asymm {a b : Int × Int} (h : ahead a b = true) : ¬ ahead b a = true := by rw [ahead_iff] at *; omega
/-- Not ahead of. -/
def Leq (a b : Int × Int) : Prop := ¬ ahead b a = true
theorem Leq.trans {a b c : Int × Int} (h : Leq a b) (k : Leq b c) : Leq a c := by unfold Leq at *; rw [ahead_iff] at *; omega
theorem Leq.refl (a : Int × Int) : Leq a a := by unfold Leq; rw [ahead_iff]; omega
theorem Leq.of {a b : Int × Int} (h : ahead a b = true) : Leq a b := ahead_asymm h
theorem Leq.total (a b : Int × Int) : Leq a b ∨ Leq b a := by unfold Leq; rw [ahead_iff, ahead_iff]; omega

theorem pl_swap (l : List (Int × Int)) (i k j : Nat) (hi : i < l.length) (hk : k < l.length) : pl (swapL l i k) j = if j = k then pl l i else if j = i then pl l k else pl l j := by
  by_cases hj : j < l.length
  · have hj' : j < (swapL l i k).length := by rw [swapL_length]; exact hj
    rw [pl_get hj', swapL_get l i k j hi hk hj', pl_get hi, pl_get hk, pl_get hj]
  · rw [if_neg (by omega), if_neg (by omega)]
    simp [pl, List.getD, hj, swapL_length]

theorem childL_best (l : List (Int × Int)) {i n c : Nat} (hc : c < n) (h : c = 2 * i + 1 ∨ c = 2 * i + 2) : Leq (pl l (childL l i n)) (pl l c) := by
  unfold childL
  split
  · rename_i hh
    rcases h with rfl | rfl
    · exact Leq.of hh.2
    · exact Leq.refl _
  · rename_i hh
    rcases h with rfl | rfl
    · exact Leq.refl _
    · exact fun e => hh ⟨hc, e⟩
theorem childL_is (l : List (Int × Int)) (i n : Nat) : childL l i n = 2 * i + 1 ∨ childL l i n = 2 * i + 2 := by unfold childL; split <;> omega

/-- No child below n of a place from k on is ahead of it. -/
def Heap (k n : Nat) (l : List (Int × Int)) : Prop := ∀ c, c < n → 0 < c → k ≤ (c - 1) / 2 → Leq (pl l ((c - 1) / 2)) (pl l c)
/-- .. but of the place i. -/
def Hole (k n i : Nat) (l : List (Int × Int)) : Prop :=
  (∀ c, c < n → 0 < c → k ≤ (c - 1) / 2 → (c - 1) / 2 ≠ i → Leq (pl l ((c - 1) / 2)) (pl l c)) ∧
  (0 < i → k ≤ (i - 1) / 2 → ∀ c, c < n → 0 < c → (c - 1) / 2 = i → Leq (pl l ((i - 1) / 2)) (pl l c))

theorem down_heap (k n : Nat) : ∀ (f : Nat) (l : List (Int × Int)) (i : Nat), n ≤ l.length → n ≤ i + f → k ≤ i → Hole k n i l → Heap k n (downL f l i n)
  | 0, l, i, hn, hf, hk, h => by
    intro c hc h0 hkc
    exact h.1 c hc h0 hkc (by omega)
  | f + 1, l, i, hn, hf, hk, h => by
    unfold downL
    split
    · rename_i h1
      have hcl := childL_lt (l := l) h1
      have hci := childL_is l i n
      have hb := fun c hc e => childL_best l (i := i) (n := n) (c := c) hc e
      generalize childL l i n = m at *
      split
      · rename_i h2
        refine down_heap k n f _ m (by rw [swapL_length]; exact hn) (by omega) (by omega) ⟨?_, ?_⟩
        · intro c hc h0 hkc hne
          rw [pl_swap l i m _ (by omega) (by omega), pl_swap l i m _ (by omega) (by omega)]
          by_cases e1 : c = m
          · subst e1
            have hp : (c - 1) / 2 = i := by omega
            rw [if_pos rfl, if_neg (by omega), if_pos hp]
            exact Leq.of h2
          · rw [if_neg e1, if_neg hne]
            by_cases e2 : (c - 1) / 2 = i
            · rw [if_pos e2, if_neg (by omega)]
              exact hb c hc (by omega)
            · rw [if_neg e2]
              by_cases e3 : c = i
              · subst e3
                rw [if_pos rfl]
                exact h.2 h0 hkc m hcl.1 (by omega) (by omega)
              · rw [if_neg e3]
                exact h.1 c hc h0 hkc e2
        · intro hm0 hkm c hc h0 hp
          have hpm : (m - 1) / 2 = i := by omega
          rw [pl_swap l i m _ (by omega) (by omega), pl_swap l i m _ (by omega) (by omega), hpm, if_neg (by omega), if_pos rfl, if_neg (by omega), if_neg (by omega)]
          have := h.1 c hc h0 (by omega) (by omega)
          rw [hp] at this
          exact this
      · rename_i h2
        intro c hc h0 hkc
        by_cases e : (c - 1) / 2 = i
        · rw [e]
          exact Leq.trans h2 (hb c hc (by omega))
        · exact h.1 c hc h0 hkc e
    · rename_i h1
      intro c hc h0 hkc
      exact h.1 c hc h0 hkc (by omega)

theorem init_heap (n : Nat) : ∀ (k : Nat) (l : List (Int × Int)), n ≤ l.length → Heap k n l → Heap 0 n (initL n k l)
  | 0, l, _, h => h
  | k + 1, l, hn, h => by
    rw [initL]
    refine init_heap n k _ (by rw [downL_length]; exact hn) (down_heap k n n l k hn (by omega) (Nat.le_refl _) ⟨?_, ?_⟩)
    · intro c hc h0 hkc hne
      exact h c hc h0 (by omega)
    · intro h0 hk
      omega

theorem heap_min {n : Nat} {l : List (Int × Int)} (h : Heap 0 n l) : ∀ c, c < n → Leq (pl l 0) (pl l c) := by
  intro c
  induction c using Nat.strongRecOn with
  | ind c ih =>
    intro hc
    by_cases h0 : c = 0
    · subst h0; exact Leq.refl _
    · exact Leq.trans (ih ((c - 1) / 2) (by omega) (by omega)) (h c hc (by omega) (Nat.zero_le _))

theorem swapL_perm (l : List (Int × Int)) (i k : Nat) (hi : i < l.length) (hk : k < l.length) : (swapL l i k).Perm l := by
  have h := Array.swap_perm (xs := l.toArray) (i := i) (j := k) (by simpa using hi) (by simpa using hk)
  have h2 := h.toList
  simpa [swapL, Array.swap, hi, hk] using h2
theorem downL_perm : ∀ (f : Nat) (l : List (Int × Int)) (i n : Nat), n ≤ l.length → (downL f l i n).Perm l
  | 0, _, _, _, _ => List.Perm.refl _
  | f + 1, l, i, n, hn => by
    unfold downL
    split
    · rename_i h1
      have hcl := childL_lt (l := l) h1
      split
      · exact (downL_perm f _ _ _ (by rw [swapL_length]; exact hn)).trans (swapL_perm l _ _ (by omega) (by omega))
      · exact List.Perm.refl _
    · exact List.Perm.refl _
theorem initL_perm (n : Nat) : ∀ (k : Nat) (l : List (Int × Int)), n ≤ l.length → (initL n k l).Perm l
  | 0, _, _ => List.Perm.refl _
  | k + 1, l, hn => (initL_perm n k _ (by rw [downL_length]; exact hn)).trans (downL_perm n l k n hn)
theorem downL_far : ∀ (f : Nat) (l : List (Int × Int)) (i n j : Nat), n ≤ l.length → n ≤ j → pl (downL f l i n) j = pl l j
  | 0, _, _, _, _, _, _ => rfl
  | f + 1, l, i, n, j, hn, hj => by
    unfold downL
    split
    · rename_i h1
      have hcl := childL_lt (l := l) h1
      split
      · rw [downL_far f _ _ _ _ (by rw [swapL_length]; exact hn) hj, pl_swap l _ _ _ (by omega) (by omega), if_neg (by omega), if_neg (by omega)]
      · rfl
    · rfl

theorem pl_left (r : List (Int × Int)) (x : Int × Int) (j : Nat) (h : j < r.length) : pl (r ++ [x]) j = pl r j := by
  rw [pl_get h, pl_get (by simp; omega), List.getElem_append_left h]
theorem pop_spec {l r : List (Int × Int)} {x : Int × Int} (hh : Heap 0 l.length l) (h : popL l = r ++ [x]) : Heap 0 r.length r ∧ l.Perm (x :: r) ∧ ∀ y ∈ r, Leq x y := by
  have hlen := popL_length l
  have hn : r.length + 1 = l.length := by rw [h] at hlen; simpa using hlen
  have hsp := swapL_perm l 0 (l.length - 1) (by omega) (by omega)
  have hperm : (popL l).Perm l := (downL_perm _ _ _ _ (by rw [swapL_length]; omega)).trans hsp
  have hp2 : l.Perm (x :: r) := by
    rw [h] at hperm
    exact hperm.symm.trans (List.perm_append_singleton _ _)
  have hx : x = pl l 0 := by
    have h1 : pl (popL l) (l.length - 1) = pl l 0 := by
      rw [popL, downL_far _ _ _ _ _ (by rw [swapL_length]; omega) (Nat.le_refl _), pl_swap l _ _ _ (by omega) (by omega), if_pos rfl]
    rw [h, pl_get (by simp; omega)] at h1
    rw [← h1]
    simp [show l.length - 1 = r.length by omega]
  refine ⟨?_, hp2, fun y hy => ?_⟩
  · have hd := down_heap 0 (l.length - 1) (l.length - 1) (swapL l 0 (l.length - 1)) 0 (by rw [swapL_length]; omega) (by omega) (Nat.le_refl _) ⟨fun c hc h0 _ hne => by
      rw [pl_swap l _ _ _ (by omega) (by omega), pl_swap l _ _ _ (by omega) (by omega), if_neg (by omega), if_neg (by omega), if_neg (by omega), if_neg (by omega)]
      exact hh c (by omega) h0 (Nat.zero_le _), fun h0 => by omega⟩
    intro c hc h0 hk
    have := hd c (by omega) h0 hk
    rw [show downL (l.length - 1) (swapL l 0 (l.length - 1)) 0 (l.length - 1) = r ++ [x] from h, pl_left r x c (by omega), pl_left r x _ (by omega)] at this
    exact this
  · have hyl : y ∈ l := hp2.symm.subset (List.mem_cons_of_mem _ hy)
    obtain ⟨c, hc, rfl⟩ := List.getElem_of_mem hyl
    rw [hx, ← pl_get hc]
    exact heap_min hh c hc

/-- What is taken, each with its count. -/
def takeP : Nat → List (Int × Int) → List (Int × Int)
  | 0, _ => []
  | f + 1, h =>
    match (popL h).getLast? with
    | none => []
    | some x => x :: takeP f (popL h).dropLast
theorem takeTop_eq : ∀ (f : Nat) (h : List (Int × Int)), takeTop f h = (takeP f h).map Prod.fst
  | 0, _ => rfl
  | f + 1, h => by
    rw [takeTop, takeP]
    cases (popL h).getLast? with
    | none => rfl
    | some x => simp [takeTop_eq f]
theorem takeP_go {f : Nat} {h r : List (Int × Int)} {x : Int × Int} (e : popL h = r ++ [x]) : takeP (f + 1) h = x :: takeP f r := by
  rw [takeP, e]; simp
theorem takeP_nil (f : Nat) : takeP f [] = [] := by
  cases f with
  | zero => rfl
  | succ f =>
    have : popL [] = [] := List.eq_nil_of_length_eq_zero (by rw [popL_length]; rfl)
    rw [takeP, this]; rfl
/-- All taken: the same ones, sorted. -/
theorem takeP_spec : ∀ (n : Nat) (h : List (Int × Int)), h.length = n → Heap 0 h.length h → (takeP n h).Perm h ∧ (takeP n h).Pairwise Leq
  | 0, h, e, _ => by
    obtain rfl := List.eq_nil_of_length_eq_zero e
    exact ⟨List.Perm.refl _, List.Pairwise.nil⟩
  | n + 1, h, e, hh => by
    obtain ⟨r, x, hp, hl⟩ := popL_some (h := h) (by omega)
    obtain ⟨h1, h2, h3⟩ := pop_spec hh hp
    obtain ⟨i1, i2⟩ := takeP_spec n r (by omega) h1
    rw [takeP_go hp]
    exact ⟨(List.Perm.cons x i1).trans h2.symm, List.Pairwise.cons (fun y hy => h3 y (i1.subset hy)) i2⟩
theorem takeP_take : ∀ (f n : Nat) (h : List (Int × Int)), h.length = n → takeP f h = (takeP n h).take f
  | 0, _, _, _ => by simp [takeP]
  | f + 1, 0, h, e => by
    obtain rfl := List.eq_nil_of_length_eq_zero e
    rw [takeP_nil, takeP_nil]; rfl
  | f + 1, n + 1, h, e => by
    obtain ⟨r, x, hp, hl⟩ := popL_some (h := h) (by omega)
    rw [takeP_go hp, takeP_go hp, List.take_succ_cons, takeP_take f n r (by omega)]

/-- The order of all counts, each with its count. -/
def ordP (l : List Int) : List (Int × Int) := takeP l.length (initL l.length (l.length / 2) (pairs l))
theorem ordP_spec (l : List Int) : (ordP l).Perm (pairs l) ∧ (ordP l).Pairwise Leq := by
  have hl : (initL l.length (l.length / 2) (pairs l)).length = l.length := by rw [initL_length, pairs_length]
  have hh : Heap 0 l.length (initL l.length (l.length / 2) (pairs l)) := init_heap l.length _ _ (by rw [pairs_length]; exact Nat.le_refl _) (fun c hc h0 hk => by omega)
  obtain ⟨h1, h2⟩ := takeP_spec l.length _ hl (by rw [hl]; exact hh)
  exact ⟨h1.trans (initL_perm _ _ _ (by rw [pairs_length]; exact Nat.le_refl _)), h2⟩
theorem topL_eq (l : List Int) (n : Nat) : topL l n = ((ordP l).map Prod.fst).take n := by
  have hl : (initL l.length (l.length / 2) (pairs l)).length = l.length := by rw [initL_length, pairs_length]
  rw [topL, takeTop_eq, takeP_take n l.length _ hl, List.map_take]
  rfl
theorem ordP_length (l : List Int) : (ordP l).length = l.length := by rw [(ordP_spec l).1.length_eq, pairs_length]

end Go.Proofs.Ytfnjomhefklbiaa
