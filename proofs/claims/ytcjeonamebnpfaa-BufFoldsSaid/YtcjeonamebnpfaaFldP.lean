/-
  What the waiting message of a key is: the join of all that were put of it; what that makes of a value. Plain laws.
-/
import Derived.Test.YtcjeonamebnpfaaTmQ
import Derived.Test.YtcjeonamebnpfaaBufG
namespace Go.Proofs.Ytcjeonamebnpfaa
open Go.RowKit

/-- What was put of a key. -/
def grp (us : List Upd) (k : List UInt8) : List Upd := us.filter fun u => u.key == k
theorem grp_nil (k : List UInt8) : grp [] k = [] := rfl
theorem grp_same (us : List Upd) (u : Upd) : grp (us ++ [u]) u.key = grp us u.key ++ [u] := by
  unfold grp; rw [List.filter_append]; simp
theorem grp_other (us : List Upd) (u : Upd) {k : List UInt8} (h : k ≠ u.key) : grp (us ++ [u]) k = grp us k := by
  unfold grp
  rw [List.filter_append, List.filter_cons_of_neg (by simpa using fun e : u.key = k => h e.symm)]; simp
theorem grp_len (us : List Upd) (k : List UInt8) : (grp us k).length ≤ us.length := List.length_filter_le _ _
theorem grp_mem {us : List Upd} {k : List UInt8} {x : Upd} (h : x ∈ grp us k) : x ∈ us ∧ x.key = k := by
  unfold grp at h
  obtain ⟨h1, h2⟩ := List.mem_filter.1 h
  exact ⟨h1, by simpa using h2⟩
/-- All of them joined. -/
def joinAll : List Upd → Option Upd := fun l => l.foldl (fun o u => some (match o with | none => u | some f => joinL f u)) none
theorem joinAll_snoc (l : List Upd) (u : Upd) : joinAll (l ++ [u]) = some (match joinAll l with | none => u | some f => joinL f u) := by
  unfold joinAll; rw [List.foldl_append]; rfl
theorem joinAll_nil : joinAll [] = none := rfl

theorem getL_iff {l : List Upd} (hr : Rising Upd.key l) (k : List UInt8) (x : Upd) : getL l k = some x ↔ x ∈ l ∧ x.key = k := by
  unfold getL
  constructor
  · intro h
    have h1 := List.mem_of_find?_eq_some h
    have h2 := List.find?_some h
    exact ⟨h1, by simpa using h2⟩
  · rintro ⟨h1, h2⟩
    cases hf : l.find? (fun u => u.key == k) with
    | none =>
      rw [List.find?_eq_none] at hf
      exact absurd h2 (by simpa using hf x h1)
    | some y =>
      have hy1 := List.mem_of_find?_eq_some hf
      have hy2 : y.key = k := by simpa using List.find?_some hf
      have : x = y := by
        obtain ⟨i, hi, rfl⟩ := List.getElem_of_mem h1
        obtain ⟨j, hj, rfl⟩ := List.getElem_of_mem hy1
        rcases Nat.lt_trichotomy i j with h | h | h
        · have := hr.lt h hj
          rw [h2, hy2] at this
          rw [bl_irrefl] at this; exact absurd this (by simp)
        · subst h; rfl
        · have := hr.lt h hi
          rw [h2, hy2] at this
          rw [bl_irrefl] at this; exact absurd this (by simp)
      rw [this]
theorem getL_with {l : List Upd} (hr : Rising Upd.key l) (u : Upd) : getL (withL l u) u.key = some (match getL l u.key with | none => u | some f => joinL f u) := by
  rw [getL_iff (withL_rising hr u)]
  cases hh : hasKey Upd.key l u.key with
  | false =>
    rw [getL_none hh, withL_new hh]
    exact ⟨insU_mem.2 (Or.inl rfl), rfl⟩
  | true =>
    obtain ⟨i, hi, hk, e⟩ := withL_old hr hh
    have hg : getL l u.key = some l[i] := (getL_iff hr _ _).2 ⟨List.getElem_mem hi, hk⟩
    rw [hg, e]
    refine ⟨?_, joinL_key _ _⟩
    exact List.mem_set hi _
theorem getL_with_other {l : List Upd} (hr : Rising Upd.key l) (u : Upd) {k : List UInt8} (h : k ≠ u.key) : getL (withL l u) k = getL l k := by
  have key : ∀ x, getL (withL l u) k = some x ↔ getL l k = some x := by
    intro x
    rw [getL_iff (withL_rising hr u), getL_iff hr]
    cases hh : hasKey Upd.key l u.key with
    | false =>
      rw [withL_new hh, insU_mem]
      constructor
      · rintro ⟨rfl | h1, h2⟩
        · exact absurd h2.symm h
        · exact ⟨h1, h2⟩
      · rintro ⟨h1, h2⟩; exact ⟨Or.inr h1, h2⟩
    | true =>
      obtain ⟨i, hi, hk, e⟩ := withL_old hr hh
      rw [e]
      constructor
      · rintro ⟨h1, h2⟩
        rcases List.mem_or_eq_of_mem_set h1 with h1 | rfl
        · exact ⟨h1, h2⟩
        · rw [joinL_key] at h2; exact absurd h2.symm h
      · rintro ⟨h1, h2⟩
        refine ⟨?_, h2⟩
        obtain ⟨j, hj, rfl⟩ := List.getElem_of_mem h1
        have hij : i ≠ j := fun e => by subst e; exact h (h2.symm.trans hk)
        have hs : (l.set i (joinL l[i] u))[j]'(by rw [List.length_set]; exact hj) = l[j] := by rw [List.getElem_set_ne hij]
        rw [← hs]
        exact List.getElem_mem _
  cases hg : getL l k with
  | none =>
    cases hg2 : getL (withL l u) k with
    | none => rfl
    | some x => have := (key x).1 hg2; rw [hg] at this; exact absurd this (by simp)
  | some x => exact (key x).2 hg
/-- The waiting message. -/
theorem getL_all : ∀ (us : List Upd), (∀ u ∈ us, Tm u) → ∀ k, getL (withAll us) k = joinAll (grp us k) := by
  intro us
  induction us using snoc_ind with
  | h0 => intro _ k; rfl
  | h1 us u ih =>
    intro h k
    have h0 := ih (fun x hx => h x (by simp [hx]))
    have hr := (withAll_ok us (fun x hx => tm_fine (fun y hy => h y (by simp [hy])) x hx)).1
    rw [withAll_snoc]
    by_cases hk : k = u.key
    · subst hk
      rw [getL_with hr, h0, grp_same, joinAll_snoc]
    · rw [getL_with_other hr u hk, h0, grp_other us u hk]
theorem joinAll_tm : ∀ (l : List Upd), (∀ u ∈ l, Tm u) → ∀ x, joinAll l = some x → Tm x := by
  intro l
  induction l using snoc_ind with
  | h0 => intro _ x hx; simp [joinAll] at hx
  | h1 us u ih =>
    intro h x hx
    have h0 := ih (fun x hx => h x (by simp [hx]))
    rw [joinAll_snoc] at hx
    have hx' := (Option.some.inj hx).symm
    subst hx'
    cases hj : joinAll us with
    | none => exact h u (by simp)
    | some f => exact joinL_tm (h0 f hj) (h u (by simp))
/-- On, of a value that is there or not. -/
theorem onL_there (v : List UInt8) (th : Bool) (u : Upd) : onL (if th then v else []) th u = onL v th u := by
  cases th with
  | true => rfl
  | false => unfold onL; simp
theorem numL_le8 (n : Nat) : numL (le (n % 18446744073709551616) 8) = n % 18446744073709551616 := by
  rw [numL_le, show (256 : Nat) ^ 8 = 18446744073709551616 from by decide]
  exact Nat.mod_mod _ _
/-- One behind the other is their join. -/
theorem onL_join {f t : Upd} (hf : Tm f) (ht : Tm t) (v : List UInt8) (th : Bool) : onL v th (joinL f t) = onL (onL v th f).1 (onL v th f).2 t := by
  rcases ht.kind with h | h | h
  · rw [joinL_not f t (by omega), onL_put _ _ t h, onL_put _ _ t h]
  · rw [joinL_not f t (by omega), onL_del _ _ t h, onL_del _ _ t h]
  · rcases hf.kind with k | k | k
    · rw [onL_put v th f k]
      by_cases h8 : f.val.length = 8
      · rw [joinL_num h k h8, onL_put _ _ _ rfl, onL_add8 _ t h h8]
      · rw [joinL_one h k h8, onL_put _ _ _ rfl, onL_add _ t h h8]
    · rw [onL_del v th f k, joinL_two h k, onL_put _ _ _ rfl, onL_add0 _ t h]
    · rw [joinL_add f t h k]
      cases th with
      | false =>
        rw [onL_add0 _ _ rfl, onL_add0 _ f k, onL_add8 _ t h (le_length _ _), numL_le8]
        simp only [Prod.mk.injEq, and_true]
        congr 1
        omega
      | true =>
        by_cases h8 : v.length = 8
        · rw [onL_add8 _ _ rfl h8, onL_add8 _ f k h8, onL_add8 _ t h (le_length _ _), numL_le8]
          simp only [Prod.mk.injEq, and_true]
          congr 1
          omega
        · rw [onL_add _ _ rfl h8, onL_add _ f k h8, onL_add _ t h h8]
/-- All of them, one behind the other. -/
def onAllL (v : List UInt8) (th : Bool) (l : List Upd) : List UInt8 × Bool := l.foldl (fun s u => onL s.1 s.2 u) (v, th)
theorem onAllL_snoc (v : List UInt8) (th : Bool) (l : List Upd) (u : Upd) : onAllL v th (l ++ [u]) = onL (onAllL v th l).1 (onAllL v th l).2 u := by
  unfold onAllL; rw [List.foldl_append]; rfl
theorem onAllL_join : ∀ (l : List Upd), (∀ u ∈ l, Tm u) → ∀ x, joinAll l = some x → ∀ v th, onAllL v th l = onL v th x := by
  intro l
  induction l using snoc_ind with
  | h0 => intro _ x hx; simp [joinAll] at hx
  | h1 us u ih =>
    intro h x hx v th
    have h0 := ih (fun x hx => h x (by simp [hx]))
    rw [joinAll_snoc] at hx
    have hx' := (Option.some.inj hx).symm
    subst hx'
    rw [onAllL_snoc]
    cases hj : joinAll us with
    | none =>
      have : us = [] := by
        rcases List.eq_nil_or_concat us with e | ⟨l', a, e⟩
        · exact e
        · rw [e, List.concat_eq_append, joinAll_snoc] at hj; exact absurd hj (by simp)
      subst this
      rfl
    | some f =>
      rw [h0 f hj, onL_join (joinAll_tm us (fun x hx => h x (by simp [hx])) f hj) (h u (by simp))]
theorem onAllL_len (v : List UInt8) (th : Bool) (hv : v.length ≤ 20) : ∀ (l : List Upd), (∀ u ∈ l, Tm u) → (onAllL v th l).1.length ≤ 20 := by
  intro l
  induction l using snoc_ind with
  | h0 => intro _; exact hv
  | h1 us u ih =>
    intro h
    rw [onAllL_snoc]
    exact onL_len _ _ _ 20 (ih (fun x hx => h x (by simp [hx]))) (h u (by simp)).vlen (by decide)

end Go.Proofs.Ytcjeonamebnpfaa
