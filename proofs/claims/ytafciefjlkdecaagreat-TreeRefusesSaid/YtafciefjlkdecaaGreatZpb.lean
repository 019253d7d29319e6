/-
  The plain law of layer 19: what is taken off a heap is sorted.
  The walks of treenailref19: ahead and Order.
  What the walk of PickOrders needs; the walk where there is no count.
  The plain law of the first ones: each is a place, no two alike, and none that is left out is ahead of one of them; the first one has at least its share.
-/
import Derived.Test.YtafciefjlkdecaaGreatZpa
import Derived.OwnWalk
import Derived.Deep.RegionWith
import Derived.Deep.RegionHeld3
import Derived.Deep.DrawnRows
import Derived.Laws.AppendOwnNone
namespace Go.Proofs.YtafciefjlkdecaaGreat
open Go.RowKit

theorem ahead_iff (a b : Int × Int) : ahead a b = true ↔ (b.2 < a.2 ∨ (a.2 = b.2 ∧ a.1 < b.1)) := by simp [ahead]
theorem ahead_asymm {a b : Int × Int} (h : ahead a b = true) : ¬ ahead b a = true := by rw [ahead_iff] at *; omega
/-- Not ahead of. -/
def Leq (a b : Int × Int) : Prop := ¬ ahead b a = true
theorem Leq.trans {a b c : Int × Int} (h : Leq a b) (k : Leq b c) : Leq a c := by unfold Leq at *; rw [ahead_iff] at *; omega
theorem Leq.refl (a : Int × Int) : Leq a a := by unfold Leq; rw [ahead_iff]; omega
theorem Leq.of {a b : Int × Int} (h : ahead a b = true) : Leq a b := ahead_asymm h
theorem Leq.total (a b : Int × Int) : Leq a b ∨ Leq b a := by unfold Leq; rw [ahead_iff, ahead_iff]; omega

theorem pl_swap (l : List (Int × Int)) (i k j : Nat) (hi : i < l.length) (hk : k < l.length) : pl (swapL l i k) j = if j = k then pl l i else if j = i then pl l k else pl l j := by
  by_cases hj : j < l.length
  · have hj' : j < (swapL l i k).length := by rw [swapL_length]; exact hj
    rw [pl_get hj', swapL_get l i k j hi hk hj', pl_get hi, pl_get hk, pl_get hj]
  · rw [if_neg (by omega), if_neg (by omega)]
    simp [pl, List.getD, hj, swapL_length]

theorem childL_best (l : List (Int × Int)) {i n c : Nat} (hc : c < n) (h : c = 2 * i + 1 ∨ c = 2 * i + 2) : Leq (pl l (childL l i n)) (pl l c) := by
  unfold childL
  split
  · rename_i hh
    rcases h with rfl | rfl
    · exact Leq.of hh.2
    · exact Leq.refl _
  · rename_i hh
    rcases h with rfl | rfl
    · exact Leq.refl _
    · exact fun e => hh ⟨hc, e⟩
theorem childL_is (l : List (Int × Int)) (i n : Nat) : childL l i n = 2 * i + 1 ∨ childL l i n = 2 * i + 2 := by unfold childL; split <;> omega

/-- No child below n of a place from k on is ahead of it. -/
def Heap (k n : Nat) (l : List (Int × Int)) : Prop := ∀ c, c < n → 0 < c → k ≤ (c - 1) / 2 → Leq (pl l ((c - 1) / 2)) (pl l c)
/-- .. but of the place i. -/
def Hole (k n i : Nat) (l : List (Int × Int)) : Prop :=
  (∀ c, c < n → 0 < c → k ≤ (c - 1) / 2 → (c - 1) / 2 ≠ i → Leq (pl l ((c - 1) / 2)) (pl l c)) ∧
  (0 < i → k ≤ (i - 1) / 2 → ∀ c, c < n → 0 < c → (c - 1) / 2 = i → Leq (pl l ((i - 1) / 2)) (pl l c))

theorem down_heap (k n : Nat) : ∀ (f : Nat) (l : List (Int × Int)) (i : Nat), n ≤ l.length → n ≤ i + f → k ≤ i → Hole k n i l → Heap k n (downL f l i n)
  | 0, l, i, hn, hf, hk, h => by
    intro c hc h0 hkc
    exact h.1 c hc h0 hkc (by omega)
  | f + 1, l, i, hn, hf, hk, h => by
    unfold downL
    split
    · rename_i h1
      have hcl := childL_lt (l := l) h1
      have hci := childL_is l i n
      have hb := fun c hc e => childL_best l (i := i) (n := n) (c := c) hc e
      generalize childL l i n = m at *
      split
      · rename_i h2
        refine down_heap k n f _ m (by rw [swapL_length]; exact hn) (by omega) (by omega) ⟨?_, ?_⟩
        · intro c hc h0 hkc hne
          rw [pl_swap l i m _ (by omega) (by omega), pl_swap l i m _ (by omega) (by omega)]
          by_cases e1 : c = m
          · subst e1
            have hp : (c - 1) / 2 = i := by omega
            rw [if_pos rfl, if_neg (by omega), if_pos hp]
            exact Leq.of h2
          · rw [if_neg e1, if_neg hne]
            by_cases e2 : (c - 1) / 2 = i
            · rw [if_pos e2, if_neg (by omega)]
              exact hb c hc (by omega)
            · rw [if_neg e2]
              by_cases e3 : c = i
              · subst e3
                rw [if_pos rfl]
                exact h.2 h0 hkc m hcl.1 (by omega) (by omega)
              · rw [if_neg e3]
                exact h.1 c hc h0 hkc e2
        · intro hm0 hkm c hc h0 hp
          have hpm : (m - 1) / 2 = i := by omega
          rw [pl_swap l i m _ (by omega) (by omega), pl_swap l i m _ (by omega) (by omega), hpm, if_neg (by omega), if_pos rfl, if_neg (by omega), if_neg (by omega)]
          have := h.1 c hc h0 (by omega) (by omega)
          rw [hp] at this
          exact this
      · rename_i h2
        intro c hc h0 hkc
        by_cases e : (c - 1) / 2 = i
        · rw [e]
          exact Leq.trans h2 (hb c hc (by omega))
        · exact h.1 c hc h0 hkc e
    · rename_i h1
      intro c hc h0 hkc
      exact h.1 c hc h0 hkc (by omega)

theorem init_heap (n : Nat) : ∀ (k : Nat) (l : List (Int × Int)), n ≤ l.length → Heap k n l → Heap 0 n (initL n k l)
  | 0, l, _, h => h
  | k + 1, l, hn, h => by
    rw [initL]
    refine init_heap n k _ (by rw [downL_length]; exact hn) (down_heap k n n l k hn (by omega) (Nat.le_refl _) ⟨?_, ?_⟩)
    · intro c hc h0 hkc hne
      exact h c hc h0 (by omega)
    · intro h0 hk
      omega

theorem heap_min {n : Nat} {l : List (Int × Int)} (h : Heap 0 n l) : ∀ c, c < n → Leq (pl l 0) (pl l c) := by
  intro c
  induction c using Nat.strongRecOn with
  | ind c ih =>
    intro hc
    by_cases h0 : c = 0
    · subst h0; exact Leq.refl _
    · exact Leq.trans (ih ((c - 1) / 2) (by omega) (by omega)) (h c hc (by omega) (Nat.zero_le _))

theorem swapL_perm (l : List (Int × Int)) (i k : Nat) (hi : i < l.length) (hk : k < l.length) : (swapL l i k).Perm l := by
  have h := Array.swap_perm (xs := l.toArray) (i := i) (j := k) (by simpa using hi) (by simpa using hk)
  have h2 := h.toList
  simpa [swapL, Array.swap, hi, hk] using h2
theorem downL_perm : ∀ (f : Nat) (l : List (Int × Int)) (i n : Nat), n ≤ l.length → (downL f l i n).Perm l
  | 0, _, _, _, _ => List.Perm.refl _
  | f + 1, l, i, n, hn => by
    unfold downL
    split
    · rename_i h1
      have hcl := childL_lt (l := l) h1
      split
      · exact (downL_perm f _ _ _ (by rw [swapL_length]; exact hn)).trans (swapL_perm l _ _ (by omega) (by omega))
      · exact List.Perm.refl _
    · exact List.Perm.refl _
theorem initL_perm (n : Nat) : ∀ (k : Nat) (l : List (Int × Int)), n ≤ l.length → (initL n k l).Perm l
  | 0, _, _ => List.Perm.refl _
  | k + 1, l, hn => (initL_perm n k _ (by rw [downL_length]; exact hn)).trans (downL_perm n l k n hn)
theorem downL_far : ∀ (f : Nat) (l : List (Int × Int)) (i n j : Nat), n ≤ l.length → n ≤ j → pl (downL f l i n) j = pl l j
  | 0, _, _, _, _, _, _ => rfl
  | f + 1, l, i, n, j, hn, hj => by
    unfold downL
    split
    · rename_i h1
      have hcl := childL_lt (l := l) h1
      split
      · rw [downL_far f _ _ _ _ (by rw [swapL_length]; exact hn) hj, pl_swap l _ _ _ (by omega) (by omega), if_neg (by omega), if_neg (by omega)]
      · rfl
    · rfl

theorem pl_left (r : List (Int × Int)) (x : Int × Int) (j : Nat) (h : j < r.length) : pl (r ++ [x]) j = pl r j := by
  rw [pl_get h, pl_get (by simp; omega), List.getElem_append_left h]
theorem pop_spec {l r : List (Int × Int)} {x : Int × Int} (hh : Heap 0 l.length l) (h : popL l = r ++ [x]) : Heap 0 r.length r ∧ l.Perm (x :: r) ∧ ∀ y ∈ r, Leq x y := by
  have hlen := popL_length l
  have hn : r.length + 1 = l.length := by rw [h] at hlen; simpa using hlen
  have hsp := swapL_perm l 0 (l.length - 1) (by omega) (by omega)
  have hperm : (popL l).Perm l := (downL_perm _ _ _ _ (by rw [swapL_length]; omega)).trans hsp
  have hp2 : l.Perm (x :: r) := by
    rw [h] at hperm
    exact hperm.symm.trans (List.perm_append_singleton _ _)
  have hx : x = pl l 0 := by
    have h1 : pl (popL l) (l.length - 1) = pl l 0 := by
      rw [popL, downL_far _ _ _ _ _ (by rw [swapL_length]; omega) (Nat.le_refl _), pl_swap l _ _ _ (by omega) (by omega), if_pos rfl]
    rw [h, pl_get (by simp; omega)] at h1
    rw [← h1]
    simp [show l.length - 1 = r.length by omega]
  refine ⟨?_, hp2, fun y hy => ?_⟩
  · have hd := down_heap 0 (l.length - 1) (l.length - 1) (swapL l 0 (l.length - 1)) 0 (by rw [swapL_length]; omega) (by omega) (Nat.le_refl _) ⟨fun c hc h0 _ hne => by
      rw [pl_swap l _ _ _ (by omega) (by omega), pl_swap l _ _ _ (by omega) (by omega), if_neg (by omega), if_neg (by omega), if_neg (by omega), if_neg (by omega)]
      exact hh c (by omega) h0 (Nat.zero_le _), fun h0 => by omega⟩
    intro c hc h0 hk
    have := hd c (by omega) h0 hk
    rw [show downL (l.length - 1) (swapL l 0 (l.length - 1)) 0 (l.length - 1) = r ++ [x] from h, pl_left r x c (by omega), pl_left r x _ (by omega)] at this
    exact this
  · have hyl : y ∈ l := hp2.symm.subset (List.mem_cons_of_mem _ hy)
    obtain ⟨c, hc, rfl⟩ := List.getElem_of_mem hyl
    rw [hx, ← pl_get hc]
    exact heap_min hh c hc

/-- What is taken, each with its count. -/
def takeP : Nat → List (Int × Int) → List (Int × Int)
  | 0, _ => []
  | f + 1, h =>
    match (popL h).getLast? with
    | none => []
    | some x => x :: takeP f (popL h).dropLast
theorem takeTop_eq : ∀ (f : Nat) (h : List (Int × Int)), takeTop f h = (takeP f h).map Prod.fst
  | 0, _ => rfl
  | f + 1, h => by
    rw [takeTop, takeP]
    cases (popL h).getLast? with
    | none => rfl
    | some x => simp [takeTop_eq f]
theorem takeP_go {f : Nat} {h r : List (Int × Int)} {x : Int × Int} (e : popL h = r ++ [x]) : takeP (f + 1) h = x :: takeP f r := by
  rw [takeP, e]; simp
theorem takeP_nil (f : Nat) : takeP f [] = [] := by
  cases f with
  | zero => rfl
  | succ f =>
    have : popL [] = [] := List.eq_nil_of_length_eq_zero (by rw [popL_length]; rfl)
    rw [takeP, this]; rfl
/-- All taken: the same ones, sorted. -/
theorem takeP_spec : ∀ (n : Nat) (h : List (Int × Int)), h.length = n → Heap 0 h.length h → (takeP n h).Perm h ∧ (takeP n h).Pairwise Leq
  | 0, h, e, _ => by
    obtain rfl := List.eq_nil_of_length_eq_zero e
    exact ⟨List.Perm.refl _, List.Pairwise.nil⟩
  | n + 1, h, e, hh => by
    obtain ⟨r, x, hp, hl⟩ := popL_some (h := h) (by omega)
    obtain ⟨h1, h2, h3⟩ := pop_spec hh hp
    obtain ⟨i1, i2⟩ := takeP_spec n r (by omega) h1
    rw [takeP_go hp]
    exact ⟨(List.Perm.cons x i1).trans h2.symm, List.Pairwise.cons (fun y hy => h3 y (i1.subset hy)) i2⟩
theorem takeP_take : ∀ (f n : Nat) (h : List (Int × Int)), h.length = n → takeP f h = (takeP n h).take f
  | 0, _, _, _ => by simp [takeP]
  | f + 1, 0, h, e => by
    obtain rfl := List.eq_nil_of_length_eq_zero e
    rw [takeP_nil, takeP_nil]; rfl
  | f + 1, n + 1, h, e => by
    obtain ⟨r, x, hp, hl⟩ := popL_some (h := h) (by omega)
    rw [takeP_go hp, takeP_go hp, List.take_succ_cons, takeP_take f n r (by omega)]

/-- The order of all counts, each with its count. -/
def ordP (l : List Int) : List (Int × Int) := takeP l.length (initL l.length (l.length / 2) (pairs l))
theorem ordP_spec (l : List Int) : (ordP l).Perm (pairs l) ∧ (ordP l).Pairwise Leq := by
  have hl : (initL l.length (l.length / 2) (pairs l)).length = l.length := by rw [initL_length, pairs_length]
  have hh : Heap 0 l.length (initL l.length (l.length / 2) (pairs l)) := init_heap l.length _ _ (by rw [pairs_length]; exact Nat.le_refl _) (fun c hc h0 hk => by omega)
  obtain ⟨h1, h2⟩ := takeP_spec l.length _ hl (by rw [hl]; exact hh)
  exact ⟨h1.trans (initL_perm _ _ _ (by rw [pairs_length]; exact Nat.le_refl _)), h2⟩
theorem topL_eq (l : List Int) (n : Nat) : topL l n = ((ordP l).map Prod.fst).take n := by
  have hl : (initL l.length (l.length / 2) (pairs l)).length = l.length := by rw [initL_length, pairs_length]
  rw [topL, takeTop_eq, takeP_take n l.length _ hl, List.map_take]
  rfl
theorem ordP_length (l : List Int) : (ordP l).length = l.length := by rw [(ordP_spec l).1.length_eq, pairs_length]

end Go.Proofs.YtafciefjlkdecaaGreat

namespace Go.Proofs.YtafciefjlkdecaaGreat
open Go.RowKit

theorem leq_antisymm {a b : Int × Int} (h : Leq a b) (k : Leq b a) : a = b := by
  obtain ⟨a1, a2⟩ := a
  obtain ⟨b1, b2⟩ := b
  unfold Leq at *
  rw [ahead_iff] at *
  simp only [Prod.mk.injEq] at *
  omega

/-- The best one so far of those below k that aren't in r. -/
def BestAt (l r : List Int) (k : Nat) (b : Value) : Prop :=
  (b = .int .i64 (-1) ∧ ∀ j : Nat, j < k → (j : Int) ∈ r) ∨
  ∃ bn : Nat, b = .int .i64 bn ∧ bn < k ∧ (bn : Int) ∉ r ∧ ∀ j : Nat, j < k → (j : Int) ∉ r → Leq (pl (pairs l) bn) (pl (pairs l) j)
theorem pl_pairs (l : List Int) (i : Nat) (h : i < l.length) : pl (pairs l) i = ((i : Int), l[i]) := by
  rw [pl_get (by rw [pairs_length]; exact h), pairs_get]

theorem ordP_apart (l : List Int) : (ordP l).Pairwise (fun a b => a.1 ≠ b.1) := by
  refine ((ordP_spec l).1.pairwise_iff (fun h => Ne.symm h)).2 (List.pairwise_iff_getElem.2 fun i j hi hj hij => ?_)
  rw [pairs_get, pairs_get]
  simp only [ne_eq]
  omega

theorem best_is {l r : List Int} {b : Value} (hr : r = ((ordP l).map Prod.fst).take r.length) (hlt : r.length < l.length) (hB : BestAt l r l.length b) :
    ∃ bn : Nat, b = .int .i64 bn ∧ bn < l.length ∧ r ++ [(bn : Int)] = ((ordP l).map Prod.fst).take (r.length + 1) := by
  have hol := ordP_length l
  obtain ⟨hp, hpw⟩ := ordP_spec l
  have hy : (ordP l)[r.length]'(by omega) ∈ pairs l := hp.subset (List.getElem_mem _)
  obtain ⟨j, hj, hje⟩ := List.getElem_of_mem hy
  rw [pairs_get] at hje
  rw [pairs_length] at hj
  have hjr : (j : Int) ∉ r := by
    intro hm
    rw [hr] at hm
    obtain ⟨p, hp1, hp2⟩ := List.getElem_of_mem hm
    rw [List.getElem_take, List.getElem_map] at hp2
    rw [List.length_take, List.length_map] at hp1
    have := List.pairwise_iff_getElem.1 (ordP_apart l) p r.length (by omega) (by omega) (by omega)
    rw [hp2, ← hje] at this
    exact this rfl
  have hlast : ∀ bn : Nat, ((ordP l)[r.length]'(by omega)).1 = (bn : Int) → r ++ [(bn : Int)] = ((ordP l).map Prod.fst).take (r.length + 1) := by
    intro bn e
    rw [List.take_succ_eq_append_getElem (by rw [List.length_map]; omega), ← hr, List.getElem_map, e]
  rcases hB with ⟨_, h1⟩ | ⟨bn, rfl, hbn, hbr, hbest⟩
  · exact absurd (h1 j hj) hjr
  · refine ⟨bn, rfl, hbn, hlast bn ?_⟩
    have h1 := hbest j hj hjr
    rw [pl_pairs l bn hbn, pl_pairs l j hj, hje] at h1
    have hmem : ((bn : Int), l[bn]) ∈ ordP l := hp.symm.subset (by rw [← pairs_get l bn (by rw [pairs_length]; exact hbn)]; exact List.getElem_mem _)
    obtain ⟨p, hp1, hp2⟩ := List.getElem_of_mem hmem
    have hpr : r.length ≤ p := by
      refine Nat.le_of_not_lt fun hlt' => hbr ?_
      rw [hr]
      refine List.mem_of_getElem (i := p) (h := by rw [List.length_take, List.length_map]; omega) ?_
      rw [List.getElem_take, List.getElem_map, hp2]
    have h2 : Leq ((ordP l)[r.length]'(by omega)) ((bn : Int), l[bn]) := by
      by_cases e : p = r.length
      · subst e; rw [hp2]; exact Leq.refl _
      · rw [← hp2]; exact List.pairwise_iff_getElem.1 hpw r.length p (by omega) hp1 (by omega)
    rw [leq_antisymm h2 h1]

theorem BestAt.start (l r : List Int) : BestAt l r 0 (.int .i64 (-1)) := Or.inl ⟨rfl, fun j h => by omega⟩
theorem BestAt.skip {l r : List Int} {k : Nat} {b : Value} (h : BestAt l r k b) (hk : (k : Int) ∈ r) : BestAt l r (k + 1) b := by
  rcases h with ⟨e, h1⟩ | ⟨bn, e, h1, h2, h3⟩
  · refine Or.inl ⟨e, fun j hj => ?_⟩
    by_cases hjk : j = k
    · rw [hjk]; exact hk
    · exact h1 j (by omega)
  · refine Or.inr ⟨bn, e, by omega, h2, fun j hj hjr => ?_⟩
    by_cases hjk : j = k
    · rw [hjk] at hjr; exact absurd hk hjr
    · exact h3 j (by omega) hjr
theorem BestAt.first {l r : List Int} {k : Nat} (h : ∀ j : Nat, j < k → (j : Int) ∈ r) (hk : (k : Int) ∉ r) : BestAt l r (k + 1) (.int .i64 k) := by
  refine Or.inr ⟨k, rfl, by omega, hk, fun j hj hjr => ?_⟩
  by_cases hjk : j = k
  · rw [hjk]; exact Leq.refl _
  · exact absurd (h j (by omega)) hjr
theorem BestAt.stay {l r : List Int} {k bn : Nat} (h1 : bn < k) (h2 : (bn : Int) ∉ r) (h3 : ∀ j : Nat, j < k → (j : Int) ∉ r → Leq (pl (pairs l) bn) (pl (pairs l) j)) (hk : Leq (pl (pairs l) bn) (pl (pairs l) k)) : BestAt l r (k + 1) (.int .i64 bn) := by
  refine Or.inr ⟨bn, rfl, by omega, h2, fun j hj hjr => ?_⟩
  by_cases hjk : j = k
  · rw [hjk]; exact hk
  · exact h3 j (by omega) hjr
theorem BestAt.turn {l r : List Int} {k bn : Nat} (h3 : ∀ j : Nat, j < k → (j : Int) ∉ r → Leq (pl (pairs l) bn) (pl (pairs l) j)) (hkr : (k : Int) ∉ r) (hk : Leq (pl (pairs l) k) (pl (pairs l) bn)) : BestAt l r (k + 1) (.int .i64 k) := by
  refine Or.inr ⟨k, rfl, by omega, hkr, fun j hj hjr => ?_⟩
  by_cases hjk : j = k
  · rw [hjk]; exact Leq.refl _
  · exact hk.trans (h3 j (by omega) hjr)

def usedV (n : Nat) (u : List Int) : List Value := (List.range n).map fun i : Nat => .bool (decide ((i : Int) ∈ u))
theorem usedV_length (n : Nat) (u : List Int) : (usedV n u).length = n := by simp [usedV]
theorem usedV_get (n : Nat) (u : List Int) (i : Nat) (h : i < n) : (usedV n u)[i]? = some (.bool (decide ((i : Int) ∈ u))) := by simp [usedV, h]
theorem usedV_set (n : Nat) (u : List Int) (i : Nat) : (usedV n u).set i (.bool true) = usedV n (u ++ [(i : Int)]) := by
  apply List.ext_getElem?
  intro j
  rw [List.getElem?_set, usedV_length]
  by_cases hj : j < n
  · rw [usedV_get _ _ _ hj, usedV_get _ _ _ hj]
    by_cases e : i = j
    · subst e; simp [hj]
    · rw [if_neg e]
      have : ¬ (j : Int) = (i : Int) := by omega
      simp [this]
  · rw [List.getElem?_eq_none (by rw [usedV_length]; omega), List.getElem?_eq_none (by rw [usedV_length]; omega)]
    split
    · rw [if_neg (by omega)]
    · rfl

/-- What the document's order has in memory. -/
structure RefAt (w0 : World) (ub n : Nat) (r u : List Int) (v : Value) (wr : World) : Prop where
  own : wr.ownsRow w0.heap.size 3 1 v r.length (intsV r)
  used : wr.ownsRow w0.heap.size 4 1 (.slice (some ⟨ub, 0, none⟩) n n) n (usedV n u)
  apart : v.ownBlock ≠ some ub
  below : Below w0.heap.size w0 wr
  len : sliceLen v = r.length
theorem RefAt.drewN {w0 : World} {ub n : Nat} {r u : List Int} {v : Value} {wr : World} (h : RefAt w0 ub n r u v wr) (m : Nat) : RefAt w0 ub n r u v (wr.drewN m) :=
  ⟨h.own, h.used, h.apart, h.below.trans ⟨rfl, rfl, rfl, Nat.le_refl _, fun _ _ => rfl⟩, h.len⟩
theorem RefAt.mark {w0 : World} {ub n : Nat} {r u : List Int} {v : Value} {wr : World} (h : RefAt w0 ub n r u v wr) (i : Nat) : RefAt w0 ub n r (u ++ [(i : Int)]) v (wr.setCell ⟨ub, i, none⟩ (.bool true)) := by
  obtain ⟨h1, h2⟩ := h.used.stored i (.bool true)
  rw [usedV_set] at h1
  have hub := (h.used.lt ub rfl).1
  exact ⟨h.own.kept h2 (Or.inr h.apart), h1, h.apart, h.below.trans ⟨rfl, rfl, rfl, by simp, fun k hk => Below.heap_setCell _ _ _ _ (by show k ≠ ub; omega)⟩, h.len⟩
theorem RefAt.more {w0 : World} {ub n : Nat} {r u : List Int} {v v' : Value} {wr w1 : World} (h : RefAt w0 ub n r u v wr) (x : Int) (t : TypeId) (hown : w1.ownsRow w0.heap.size 3 1 v' (r.length + 1) (intsV r ++ [.int .i64 x])) (hgrow : (wr.alloc (.cells #[.int .i64 x] t)).grownBy w1 v.ownBlock)
    (hat : v'.ownBlock = v.ownBlock ∨ v'.ownBlock = some (wr.alloc (.cells #[.int .i64 x] t)).heap.size) : RefAt w0 ub n (r ++ [x]) u v' w1 := by
  have hub := h.used.lt ub rfl
  refine ⟨by rw [intsV_snoc, List.length_append, List.length_singleton]; exact hown, (h.used.alloc _).kept hgrow (Or.inr (fun e => h.apart e.symm)), ?_, ?_, ?_⟩
  · rcases hat with e | e <;> rw [e]
    · exact h.apart
    · intro e; simp at e; omega
  · exact h.below.trans ((Below.alloc (Below.refl _ _) h.below.size _).trans ⟨hgrow.os, hgrow.tape, hgrow.output, hgrow.size, fun k hk => hgrow.block k (Nat.lt_of_lt_of_le hk (Nat.le_trans h.below.size (by simp))) (fun e => by have := (h.own.lt k e.symm).1; omega)⟩)
  · obtain ⟨g', c', rfl⟩ := hown.slice (by omega)
    simp [sliceLen]
theorem RefAt.form {w0 : World} {ub n : Nat} {r u : List Int} {v : Value} {wr : World} (h : RefAt w0 ub n r u v wr) : ∃ ao c', v = .slice ao r.length c' := by
  rcases h.own.2 with ⟨e, hn⟩ | ⟨g, cap, cur, hv, _⟩
  · exact ⟨none, 0, by rw [e, hn]⟩
  · exact ⟨_, _, hv⟩
theorem bool_info : (Tryz.prog.info? 4).map (fun i => (i.zero, i.size, i.bytes)) = some (some (.bool false), 1, 1) := by kernel_rfl
theorem RefAt.start {w w1 : World} {n : Nat} (h : w1.ownsRow w.heap.size 4 1 (.slice (some ⟨w.heap.size, 0, none⟩) n n) n (madeCells (Value.bool false).cells (n * 1)).toList) (hg : w.grownBy w1 none) : RefAt w w.heap.size n [] [] (.slice none 0 0) w1 := by
  refine ⟨World.ownsRow_nil _ _ _ _, ?_, by simp [Value.ownBlock], ⟨hg.os, hg.tape, hg.output, hg.size, fun k hk => hg.block k hk (by simp)⟩, rfl⟩
  have : (madeCells (Value.bool false).cells (n * 1)).toList = usedV n [] := by
    rw [show (Value.bool false).cells = #[.bool false] from rfl, toList_madeCells_one, Nat.mul_one]
    apply List.ext_getElem?
    intro j
    by_cases hj : j < n
    · rw [usedV_get _ _ _ hj]; simp [hj]
    · rw [List.getElem?_eq_none (by rw [List.length_replicate]; omega : (List.replicate n (Value.bool false)).length ≤ j), List.getElem?_eq_none (by rw [usedV_length]; omega : (usedV n []).length ≤ j)]
  rw [this] at h
  exact h

end Go.Proofs.YtafciefjlkdecaaGreat

namespace Go.Proofs.YtafciefjlkdecaaGreat
open Go.RowKit
attribute [local go_sem ↓] Go.wp_at_zero Go.wp_at_succ

/-- The greater and the less of two. -/
def jmax (a b : Int) : Int := if b > a then b else a
def jmin (a b : Int) : Int := if b < a then b else a
theorem run_jmax {P : Program} (ts : Array TypeId) (t : TypeId) (a b : Int) (w : World) : (Builtin.max_ ts t #[.int .i64 a, .int .i64 b]).run P w = .ok (.int .i64 (jmax a b)) w := by rw [run_max_int2]; rfl
theorem run_jmin {P : Program} (ts : Array TypeId) (t : TypeId) (a b : Int) (w : World) : (Builtin.min_ ts t #[.int .i64 a, .int .i64 b]).run P w = .ok (.int .i64 (jmin a b)) w := by rw [run_min_int2]; rfl

theorem Out.of_own {B : Nat} {v : Value} {r : List Int} {w : World} (h : w.ownsRow B 3 1 v r.length (intsV r)) : Out B v r w := by
  refine ⟨h, ?_⟩
  rcases h.2 with ⟨e, hn⟩ | ⟨g, cap, cur, hv, _⟩
  · rw [e, hn]; rfl
  · rw [hv]; rfl

/-- An open slice of ints, as an argument. -/
structure ArgInts (w : World) (v : Value) (l : List Int) : Prop where
  form : ∃ ao c, v = .slice ao l.length c ∧ IntsAt w ao l ∧ l.length ≤ c ∧ (c : Int) ≤ 9223372036854775807 ∧ (ao = none → c = 0)

theorem ints_cells {w : World} {ad : Addr} {x : List Int} (h : IntsAt w (some ad) x) (m : Nat) : ∀ j u, (intsV (x.take m))[j]? = some u → w.cell? (ad.add j) = some u := by
  intro j u hu
  have hj := (List.getElem?_eq_some_iff.1 hu).1
  rw [intsV, List.length_map, List.length_take] at hj
  obtain ⟨b, off, e, hb, hc⟩ := h.at (by omega)
  obtain rfl : ad = ⟨b, off, none⟩ := by simpa using e
  have := hc j (by omega) 0 _ rfl
  rw [show (⟨b, off, none⟩ : Addr).add j = ⟨b, off + j, none⟩ by simp [Addr.add], show off + j = off + j * 1 + 0 by omega, this, ← hu]
  simp [intsV, show j < m by omega, show j < x.length by omega]
theorem intsV_oneCell (l : List Int) : ∀ u ∈ intsV l, u.oneCell' = true := by
  intro u hu
  simp only [intsV, List.mem_map] at hu
  obtain ⟨a, -, rfl⟩ := hu
  rfl

theorem Out.cells2 {B : Nat} {v : Value} {r : List Int} {w : World} (h : Out B v r w) : ∃ ao c, v = .slice ao r.length c ∧ IntsAt w ao r ∧ r.length ≤ c := by
  obtain ⟨ao, c, e, h2, _⟩ := h.form
  refine ⟨ao, c, e, h2, ?_⟩
  rcases h.own.2 with ⟨e', hn⟩ | ⟨g, cap, cur, hv, _, _, hle, _⟩
  · omega
  · rw [e] at hv
    simp only [Value.slice.injEq] at hv
    omega
theorem topHead (l : List Int) (h : 0 < l.length) : ∃ k : Nat, k < l.length ∧ ∃ r, (ordP l).map Prod.fst = (k : Int) :: r := by
  have hl := ordP_length l
  match e : ordP l with
  | [] => rw [e] at hl; simp at hl; omega
  | q :: r =>
    have hq : q ∈ pairs l := (ordP_spec l).1.subset (by rw [e]; simp)
    obtain ⟨k, hk, hke⟩ := List.getElem_of_mem hq
    rw [pairs_get] at hke
    rw [pairs_length] at hk
    exact ⟨k, hk, r.map Prod.fst, by rw [List.map_cons, ← hke]⟩

end Go.Proofs.YtafciefjlkdecaaGreat

namespace Go.Proofs.YtafciefjlkdecaaGreat
open Go.RowKit

theorem pairs_mem {C : List Int} {i : Nat} (h : i < C.length) : ((i : Int), C[i]) ∈ pairs C := by
  have h' : i < (pairs C).length := by rwa [pairs_length]
  have := List.getElem_mem h'
  rwa [pairs_get] at this
theorem pairs_inv {C : List Int} {q : Int × Int} (h : q ∈ pairs C) : ∃ (i : Nat) (hi : i < C.length), q = ((i : Int), C[i]) := by
  obtain ⟨i, hi, e⟩ := List.getElem_of_mem h
  rw [pairs_get] at e
  exact ⟨i, by rwa [pairs_length] at hi, e.symm⟩
theorem pairs_nodup (C : List Int) : ((pairs C).map Prod.fst).Nodup := by
  rw [List.Nodup, List.pairwise_iff_getElem]
  intro i j hi hj hij
  simp only [List.getElem_map, pairs_get]
  omega
theorem ord_nodup (C : List Int) : ((ordP C).map Prod.fst).Nodup := ((ordP_spec C).1.map Prod.fst).nodup_iff.2 (pairs_nodup C)
theorem topL_nodup (C : List Int) (n : Nat) : (topL C n).Nodup := by
  rw [topL_eq]; exact (ord_nodup C).sublist (List.take_sublist _ _)
theorem topL_len (C : List Int) (n : Nat) : (topL C n).length = min n C.length := by
  rw [topL_eq, List.length_take, List.length_map, ordP_length]
theorem topL_is {C : List Int} {n : Nat} {t : Int} (h : t ∈ topL C n) : ∃ (k : Nat) (hk : k < C.length), t = k ∧ ((k : Int), C[k]) ∈ (ordP C).take n := by
  rw [topL_eq, ← List.map_take, List.mem_map] at h
  obtain ⟨q, hq, rfl⟩ := h
  obtain ⟨k, hk, rfl⟩ := pairs_inv ((ordP_spec C).1.subset (List.mem_of_mem_take hq))
  exact ⟨k, hk, rfl, hq⟩
theorem topL_best {C : List Int} {n i k : Nat} (hi : i < C.length) (hk : k < C.length) (hin : (k : Int) ∈ topL C n) (hout : (i : Int) ∉ topL C n) : Leq ((k : Int), C[k]) ((i : Int), C[i]) := by
  obtain ⟨k', hk', e, hq⟩ := topL_is hin
  obtain rfl : k = k' := by omega
  have hi' : ((i : Int), C[i]) ∈ ordP C := (ordP_spec C).1.symm.subset (pairs_mem hi)
  rw [← List.take_append_drop n (ordP C)] at hi'
  rcases List.mem_append.1 hi' with h | h
  · exact absurd (by rw [topL_eq, ← List.map_take, List.mem_map]; exact ⟨_, h, rfl⟩) hout
  · have hp := (ordP_spec C).2
    rw [← List.take_append_drop n (ordP C), List.pairwise_append] at hp
    exact hp.2.2 _ hq _ h
theorem topL_not {C : List Int} {n i k : Nat} (hi : i < C.length) (hk : k < C.length) (hin : (k : Int) ∈ topL C n) (hout : (i : Int) ∉ topL C n) : C[i] ≤ C[k] ∧ (C[i] = C[k] → k ≤ i) := by
  have h := topL_best hi hk hin hout
  unfold Leq at h
  rw [ahead_iff] at h
  simp only at h
  omega
theorem top_one (C : List Int) (h : 0 < C.length) : ∃ k : Nat, ∃ hk : k < C.length, topL C 1 = [(k : Int)] ∧ ∀ x ∈ C, x ≤ C[k] := by
  obtain ⟨k, hk, r, hr⟩ := topHead C h
  refine ⟨k, hk, by rw [topL_eq, hr]; rfl, fun x hx => ?_⟩
  obtain ⟨i, hi, rfl⟩ := List.getElem_of_mem hx
  by_cases e : (i : Int) ∈ topL C 1
  · rw [topL_eq, hr] at e
    simp at e
    obtain rfl : i = k := by omega
    exact Int.le_refl _
  · exact (topL_not hi hk (by rw [topL_eq, hr]; simp) e).1

/-- All together. -/
def sumL (l : List Int) : Int := l.foldl (· + ·) 0
theorem sumL_snoc (l : List Int) (x : Int) : sumL (l ++ [x]) = sumL l + x := by simp [sumL]
theorem foldl_le (m : Int) : ∀ (l : List Int) (a : Int), (∀ x ∈ l, x ≤ m) → l.foldl (· + ·) a ≤ a + m * l.length
  | [], a, _ => by simp
  | x :: l, a, h => by
    have := foldl_le m l (a + x) (fun y hy => h y (by simp [hy]))
    have hx := h x (by simp)
    simp only [List.foldl_cons, List.length_cons]
    have e : m * ((l.length + 1 : Nat) : Int) = m * l.length + m := by rw [Int.natCast_add, Int.mul_add]; simp
    omega
theorem foldl_ge : ∀ (l : List Int) (a : Int), (∀ x ∈ l, 0 ≤ x) → a ≤ l.foldl (· + ·) a ∧ ∀ x ∈ l, a + x ≤ l.foldl (· + ·) a
  | [], a, _ => by simp
  | x :: l, a, h => by
    obtain ⟨h1, h2⟩ := foldl_ge l (a + x) (fun y hy => h y (by simp [hy]))
    have hx := h x (by simp)
    refine ⟨by simp only [List.foldl_cons]; omega, fun y hy => ?_⟩
    rcases List.mem_cons.1 hy with rfl | hy
    · exact h1
    · have := h2 y hy
      simp only [List.foldl_cons]; omega
theorem sumL_le {l : List Int} {m : Int} (h : ∀ x ∈ l, x ≤ m) : sumL l ≤ m * l.length := by
  have := foldl_le m l 0 h
  unfold sumL; omega
theorem sumL_ge {l : List Int} (h : ∀ x ∈ l, 0 ≤ x) : 0 ≤ sumL l ∧ ∀ x ∈ l, x ≤ sumL l := by
  have := foldl_ge l 0 h
  unfold sumL
  exact ⟨this.1, fun x hx => by have := this.2 x hx; omega⟩
/-- The greatest one is at least one just where all together are more than none. -/
theorem sumL_pos {C : List Int} {k : Nat} (hk : k < C.length) (h0 : ∀ x ∈ C, 0 ≤ x) (hm : ∀ x ∈ C, x ≤ C[k]) : (¬ C[k] < 1 ↔ 0 < sumL C) ∧ sumL C ≤ C[k] * C.length := by
  have h1 := sumL_le hm
  obtain ⟨h2, h3⟩ := sumL_ge h0
  have h4 := h3 _ (List.getElem_mem hk)
  have h5 := h0 _ (List.getElem_mem hk)
  refine ⟨⟨fun h => by omega, fun h e => ?_⟩, h1⟩
  have : C[k] = 0 := by omega
  rw [this, Int.zero_mul] at h1
  omega

theorem sum_bound (l : List Int) (h : ∀ x ∈ l, 0 ≤ x ∧ x < 256) : 0 ≤ sumL l ∧ sumL l ≤ 256 * l.length :=
  ⟨(sumL_ge fun x hx => (h x hx).1).1, sumL_le fun x hx => by have := h x hx; omega⟩

/-- A byte as a count. -/
abbrev BytesAt (w : World) (ao : Option Addr) (l : List Int) : Prop := SlAt (fun x : Int => [Value.int .u8 x]) 1 w ao l
/-- A slice of bytes, as an argument. -/
structure ArgBytes (w : World) (v : Value) (l : List Int) : Prop where
  form : ∃ ao c, v = .slice ao l.length c ∧ BytesAt w ao l ∧ l.length ≤ c ∧ (c : Int) ≤ 9223372036854775807 ∧ (ao = none → c = 0)
  rng : ∀ x ∈ l, 0 ≤ x ∧ x < 256

end Go.Proofs.YtafciefjlkdecaaGreat
