/-
  The plain laws behind FlushRest and FlushAll.
-/
import Derived.Test.YtlmlmkeomlehmaaFlm
namespace Go.Proofs.Ytlmlmkeomlehmaa
open Go.RowKit

/-- The first child takes every key. -/
theorem chAt_pos (l : List Chd) (k : List UInt8) (h0 : 0 < l.length) (h : l[0].low = []) : ∀ j, 0 < j → 0 ≤ chAt l k j
  | 0, hj => absurd hj (by omega)
  | 1, _ => by rw [chAt_yes h0 (by rw [h]; exact bl_nil k)]; simp
  | j + 2, _ => by
    have := chAt_pos l k h0 h (j + 1) (by omega)
    unfold chAt
    split
    · split <;> omega
    · omega
theorem chOf_kids (lows : List (List UInt8)) (k : List UInt8) : 0 ≤ chOf (kids lows) k ∧ chOf (kids lows) k < (kids lows).length :=
  ⟨chAt_pos _ k (by rw [kids_len]; omega) rfl _ (by rw [kids_len]; omega), (chAt_lt _ k _).2⟩
/-- Where no child has any, there are none. -/
theorem cnt_none (cs : List Chd) (us : List Upd) (hc : ∀ u ∈ us, 0 ≤ chOf cs u.key ∧ chOf cs u.key < cs.length) (h : ∀ x ∈ cntAt cs us, x < 1) : us = [] := by
  cases us with
  | nil => rfl
  | cons u t =>
    exfalso
    obtain ⟨h1, h2⟩ := hc u (by simp)
    obtain ⟨i, hi⟩ := Int.eq_ofNat_of_zero_le h1
    have hil : i < (cntAt cs (u :: t)).length := by rw [cntAt_len]; omega
    have := h _ (List.getElem_mem hil)
    rw [cntAt_get] at this
    have hm : u ∈ (u :: t).filter (fun u => chOf cs u.key = (i : Int)) := List.mem_filter.2 ⟨by simp, by simp [hi]⟩
    have := List.length_pos_of_mem hm
    omega
/-- What is found of a message that waited. -/
theorem getL_filter {l : List Upd} (hr : Rising Upd.key l) (p : Upd → Bool) (i : Nat) (hi : i < l.length) : getL (l.filter p) l[i].key = if p l[i] = true then some l[i] else none := by
  cases hp : p l[i] with
  | true =>
    rw [if_pos rfl]
    have hm : l[i] ∈ l.filter p := List.mem_filter.2 ⟨List.getElem_mem hi, hp⟩
    obtain ⟨j, hj, he⟩ := List.getElem_of_mem hm
    rw [← he]
    exact getL_some (List.Pairwise.filter _ hr) j hj
  | false =>
    rw [if_neg (by simp)]
    unfold getL
    rw [List.find?_eq_none]
    intro u hu hk
    obtain ⟨hu1, hu2⟩ := List.mem_filter.1 hu
    obtain ⟨j, hj, rfl⟩ := List.getElem_of_mem hu1
    have hk' : l[j].key = l[i].key := by simpa using hk
    rcases Nat.lt_trichotomy i j with h | h | h
    · exact bl_ne (hr.lt h hj) hk'.symm
    · subst h; rw [hp] at hu2; exact absurd hu2 (by simp)
    · exact bl_ne (hr.lt h hi) hk'
theorem get_cut {l : List Upd} (hr : Rising Upd.key l) (low high : List UInt8) (i : Nat) (hi : i < l.length) :
    getL (cutIn l low high) l[i].key = (if withinB l[i].key low high = true then some l[i] else none) ∧ getL (cutOut l low high) l[i].key = (if withinB l[i].key low high = true then none else some l[i]) := by
  rw [(cut_filter hr low high).1, (cut_filter hr low high).2, getL_filter hr _ i hi, getL_filter hr _ i hi]
  refine ⟨rfl, ?_⟩
  cases withinB l[i].key low high <;> rfl
theorem filter_both2 (l : List Upd) (p : Upd → Bool) : (l.filter p).length + (l.filter fun u => !p u).length = l.length := by
  induction l with
  | nil => rfl
  | cons u t ih =>
    cases hp : p u with
    | true => rw [List.filter_cons_of_pos hp, List.filter_cons_of_neg (by simp [hp])]; simp only [List.length_cons]; omega
    | false => rw [List.filter_cons_of_neg (by simp [hp]), List.filter_cons_of_pos (by simp [hp])]; simp only [List.length_cons]; omega
theorem cut_two {l : List Upd} (hr : Rising Upd.key l) (low high : List UInt8) : (cutIn l low high).length + (cutOut l low high).length = l.length := by
  rw [(cut_filter hr low high).1, (cut_filter hr low high).2]
  exact filter_both2 l _
/-- What of_any makes. -/
theorem all_len (keys : List (List UInt8)) : (withAll (upds keys)).length ≤ 60 := by
  have h := (withAll_ok (upds keys) (fun u hu => updsTo_ok keys 60 u hu)).2.2
  have : (upds keys).length ≤ 60 := by simp [upds]; omega
  omega
theorem all_rise (keys : List (List UInt8)) : Rising Upd.key (withAll (upds keys)) := (withAll_ok (upds keys) (fun u hu => updsTo_ok keys 60 u hu)).1

end Go.Proofs.Ytlmlmkeomlehmaa
