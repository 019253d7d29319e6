/-
  Plain laws on the lists of a buffer: what With and Cut make of a list by rising keys.
-/
import Derived.Test.YtcjeonamebnpfaaBufD
import Derived.Test.YtcjeonamebnpfaaBufW
namespace Go.Proofs.Ytcjeonamebnpfaa
open Go.RowKit

theorem rising_map (l : List Upd) : Rising Upd.key l ↔ (l.map Upd.key).Pairwise (fun a b => bl a b = true) := by unfold Rising; rw [List.pairwise_map]
theorem joinL_key (f t : Upd) : (joinL f t).key = t.key := by
  unfold joinL
  repeat' split
  all_goals rfl
theorem joinL_fine (f t : Upd) (hf : f.Wf ∧ f.val.length ≤ 1000000) (ht : t.Wf ∧ t.val.length ≤ 1000000) : (joinL f t).Wf ∧ (joinL f t).val.length ≤ 1000000 := by
  unfold joinL
  split
  · exact ht
  · split
    · exact ⟨⟨ht.1.1, mod64_lt _⟩, ht.2⟩
    · refine ⟨⟨by show (1 : Nat) < 256; decide, by show (0 : Nat) < _; decide⟩, ?_⟩
      exact onL_len _ _ _ 1000000 (onL_len _ _ _ 1000000 (by simp) hf.2 (by decide)) ht.2 (by decide)
theorem insU_mem {l : List Upd} {i : Nat} {u x : Upd} : x ∈ insU l i u ↔ x = u ∨ x ∈ l := by
  unfold insU
  rw [List.mem_append, List.mem_cons]
  have : x ∈ l ↔ x ∈ l.take i ∨ x ∈ l.drop i := by
    rw [← List.mem_append, List.take_append_drop]
  rw [this]
  constructor
  · rintro (h | h | h)
    · exact Or.inr (Or.inl h)
    · exact Or.inl h
    · exact Or.inr (Or.inr h)
  · rintro (h | h | h)
    · exact Or.inr (Or.inl h)
    · exact Or.inl h
    · exact Or.inr (Or.inr h)
theorem insU_len (l : List Upd) (i : Nat) (u : Upd) : (insU l i u).length = l.length + 1 := by
  unfold insU
  simp only [List.length_append, List.length_cons, List.length_take, List.length_drop]
  omega
theorem insU_perm (l : List Upd) (i : Nat) (u : Upd) : (insU l i u).Perm (u :: l) := by
  unfold insU
  refine List.perm_middle.trans ?_
  rw [List.take_append_drop]
theorem insU_rising {l : List Upd} (hr : Rising Upd.key l) (u : Upd) (hno : hasKey Upd.key l u.key = false) : Rising Upd.key (insU l (below Upd.key l u.key) u) := by
  have hne : ∀ x ∈ l, x.key ≠ u.key := fun x hx e => by
    have : hasKey Upd.key l u.key = true := hasKey_iff.2 ⟨x, hx, e⟩
    rw [hno] at this; exact absurd this (by simp)
  unfold insU
  have h1 : ∀ a ∈ l.take (below Upd.key l u.key), bl a.key u.key = true := by
    intro a ha
    obtain ⟨i, hi, rfl⟩ := List.getElem_of_mem ha
    rw [List.length_take] at hi
    rw [List.getElem_take]
    exact (hr.below u.key i (by omega)).2 (by omega)
  have h2 : ∀ b ∈ l.drop (below Upd.key l u.key), bl u.key b.key = true := by
    intro b hb
    obtain ⟨i, hi, rfl⟩ := List.getElem_of_mem hb
    rw [List.length_drop] at hi
    rw [List.getElem_drop]
    have hb' : ¬ bl (l[below Upd.key l u.key + i]'(by omega)).key u.key = true := by
      rw [hr.below u.key _ (by omega)]; omega
    rcases bl_not (Bool.not_eq_true _ ▸ hb' : bl (l[below Upd.key l u.key + i]'(by omega)).key u.key = false) with e | e
    · exact absurd e.symm (hne _ (List.getElem_mem _))
    · exact e
  have h3 : Rising Upd.key (l.take (below Upd.key l u.key) ++ l.drop (below Upd.key l u.key)) := by rw [List.take_append_drop]; exact hr
  have h4 := List.pairwise_append.1 h3
  refine List.pairwise_append.2 ⟨h4.1, List.pairwise_cons.2 ⟨h2, h4.2.1⟩, fun a ha b hb => ?_⟩
  rcases List.mem_cons.1 hb with rfl | hb
  · exact h1 a ha
  · exact h4.2.2 a ha b hb

theorem withL_new {l : List Upd} {u : Upd} (h : hasKey Upd.key l u.key = false) : withL l u = insU l (below Upd.key l u.key) u := by
  unfold withL
  rw [dif_neg (by simp [h])]
theorem withL_old {l : List Upd} {u : Upd} (hr : Rising Upd.key l) (h : hasKey Upd.key l u.key = true) : ∃ (i : Nat) (hi : i < l.length), l[i].key = u.key ∧ withL l u = l.set i (joinL l[i] u) := by
  obtain ⟨hlt, hk⟩ := (hr.found u.key).1 h
  refine ⟨_, hlt, hk, ?_⟩
  unfold withL
  rw [dif_pos ⟨hlt, h⟩]
theorem withL_rising {l : List Upd} (hr : Rising Upd.key l) (u : Upd) : Rising Upd.key (withL l u) := by
  cases h : hasKey Upd.key l u.key with
  | false => rw [withL_new h]; exact insU_rising hr u h
  | true =>
    obtain ⟨i, hi, hk, e⟩ := withL_old hr h
    rw [e, rising_map, List.map_set, joinL_key, ← hk]
    have : (l.map Upd.key).set i l[i].key = l.map Upd.key := by
      apply List.ext_getElem (by simp)
      intro j h1 h2
      rw [List.getElem_set]
      split
      · rename_i e; subst e; simp
      · rfl
    rw [this, ← rising_map]
    exact hr
theorem withL_len {l : List Upd} (hr : Rising Upd.key l) (u : Upd) : (withL l u).length ≤ l.length + 1 := by
  cases h : hasKey Upd.key l u.key with
  | false => rw [withL_new h, insU_len]; exact Nat.le_refl _
  | true =>
    obtain ⟨i, hi, hk, e⟩ := withL_old hr h
    rw [e, List.length_set]; omega
theorem withL_fine {l : List Upd} (hr : Rising Upd.key l) (hf : Fine l) (u : Upd) (hu : u.Wf ∧ u.val.length ≤ 1000000) : Fine (withL l u) := by
  cases h : hasKey Upd.key l u.key with
  | false =>
    rw [withL_new h]
    intro x hx
    rcases insU_mem.1 hx with rfl | hx
    · exact hu
    · exact hf x hx
  | true =>
    obtain ⟨i, hi, hk, e⟩ := withL_old hr h
    rw [e]
    intro x hx
    rcases List.mem_or_eq_of_mem_set hx with hx | rfl
    · exact hf x hx
    · exact joinL_fine _ _ (hf _ (List.getElem_mem hi)) hu

/-- One behind the other. -/
def withAll (us : List Upd) : List Upd := us.foldl withL []
theorem withAll_snoc (us : List Upd) (u : Upd) : withAll (us ++ [u]) = withL (withAll us) u := by simp [withAll]
theorem withAll_ok : ∀ (us : List Upd), (∀ u ∈ us, u.Wf ∧ u.val.length ≤ 1000000) → Rising Upd.key (withAll us) ∧ Fine (withAll us) ∧ (withAll us).length ≤ us.length := by
  intro us
  induction us using snoc_ind with
  | h0 => intro _; exact ⟨List.Pairwise.nil, fun u hu => by simp [withAll] at hu, by simp [withAll]⟩
  | h1 us u ih =>
    intro h
    obtain ⟨h1, h2, h3⟩ := ih (fun x hx => h x (by simp [hx]))
    rw [withAll_snoc]
    refine ⟨withL_rising h1 u, withL_fine h1 h2 u (h u (by simp)), ?_⟩
    have := withL_len h1 u
    simp only [List.length_append, List.length_singleton]
    omega
/-- Of unlike keys: just all of them. -/
theorem withAll_perm : ∀ (us : List Upd), (∀ u ∈ us, u.Wf ∧ u.val.length ≤ 1000000) → (us.map Upd.key).Nodup → (withAll us).Perm us := by
  intro us
  induction us using snoc_ind with
  | h0 => intro _ _; exact List.Perm.refl _
  | h1 us u ih =>
    intro h hn
    rw [List.map_append, List.nodup_append] at hn
    have hp := ih (fun x hx => h x (by simp [hx])) hn.1
    have hno : hasKey Upd.key (withAll us) u.key = false := by
      rw [Bool.eq_false_iff]
      intro hk
      obtain ⟨x, hx, e⟩ := hasKey_iff.1 hk
      have hx' := hp.mem_iff.1 hx
      exact hn.2.2 x.key (List.mem_map.2 ⟨x, hx', rfl⟩) u.key (by simp) e
    rw [withAll_snoc, withL_new hno]
    exact (insU_perm _ _ _).trans ((List.Perm.cons u hp).trans (List.perm_append_singleton u us).symm)
/-- Two lists by rising keys that hold the same are one. -/
theorem rising_unique : ∀ (a b : List Upd), Rising Upd.key a → Rising Upd.key b → a.Perm b → a = b
  | [], b, _, _, hp => (List.Perm.nil_eq hp)
  | x :: a, b, ha, hb, hp => by
    cases b with
    | nil => exact absurd hp.length_eq (by simp)
    | cons y b =>
      have hxy : x = y := by
        have h1 := hp.mem_iff.1 (List.mem_cons_self (a := x) (l := a))
        have h2 := hp.mem_iff.2 (List.mem_cons_self (a := y) (l := b))
        rcases List.mem_cons.1 h1 with e | h1
        · exact e
        · rcases List.mem_cons.1 h2 with e | h2
          · exact e.symm
          · have k1 := ha.cons.1 y h2
            have k2 := hb.cons.1 x h1
            have := bl_asymm k1
            rw [k2] at this
            exact absurd this (by simp)
      subst hxy
      rw [rising_unique a b ha.cons.2 hb.cons.2 (List.Perm.cons_inv hp)]

end Go.Proofs.Ytcjeonamebnpfaa
