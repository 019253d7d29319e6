/-
  Plain laws on the lists of a buffer: what With and Cut make of a list by rising keys.
  Updates that tame made, joined; the document's With and Cut: plain laws, no program in sight.
  An update in a box.
  The walks of (rec.Update).bytes, rec.Text and (buf.Buffer).Text.
  What a text with its length ahead leaves.
  The updates of bytes: plain laws, no program in sight.
-/
import Derived.Test.YtafciefjlkdecaaGreatZb
import Derived.Test.YtafciefjlkdecaaGreatZc
import Derived.Test.YtafciefjlkdecaaGreatZa
namespace Go.Proofs.YtafciefjlkdecaaGreat
open Go.RowKit

theorem rising_map (l : List Upd) : Rising Upd.key l ↔ (l.map Upd.key).Pairwise (fun a b => bl a b = true) := by unfold Rising; rw [List.pairwise_map]
theorem joinL_key (f t : Upd) : (joinL f t).key = t.key := by
  unfold joinL
  repeat' split
  all_goals rfl
theorem joinL_fine (f t : Upd) (hf : f.Wf ∧ f.val.length ≤ 1000000) (ht : t.Wf ∧ t.val.length ≤ 1000000) : (joinL f t).Wf ∧ (joinL f t).val.length ≤ 1000000 := by
  unfold joinL
  split
  · exact ht
  · split
    · exact ⟨⟨ht.1.1, mod64_lt _⟩, ht.2⟩
    · refine ⟨⟨by show (1 : Nat) < 256; decide, by show (0 : Nat) < _; decide⟩, ?_⟩
      exact onL_len _ _ _ 1000000 (onL_len _ _ _ 1000000 (by simp) hf.2 (by decide)) ht.2 (by decide)
theorem insU_mem {l : List Upd} {i : Nat} {u x : Upd} : x ∈ insU l i u ↔ x = u ∨ x ∈ l := by
  unfold insU
  rw [List.mem_append, List.mem_cons]
  have : x ∈ l ↔ x ∈ l.take i ∨ x ∈ l.drop i := by
    rw [← List.mem_append, List.take_append_drop]
  rw [this]
  constructor
  · rintro (h | h | h)
    · exact Or.inr (Or.inl h)
    · exact Or.inl h
    · exact Or.inr (Or.inr h)
  · rintro (h | h | h)
    · exact Or.inr (Or.inl h)
    · exact Or.inl h
    · exact Or.inr (Or.inr h)
theorem insU_len (l : List Upd) (i : Nat) (u : Upd) : (insU l i u).length = l.length + 1 := by
  unfold insU
  simp only [List.length_append, List.length_cons, List.length_take, List.length_drop]
  omega
theorem insU_perm (l : List Upd) (i : Nat) (u : Upd) : (insU l i u).Perm (u :: l) := by
  unfold insU
  refine List.perm_middle.trans ?_
  rw [List.take_append_drop]
theorem insU_rising {l : List Upd} (hr : Rising Upd.key l) (u : Upd) (hno : hasKey Upd.key l u.key = false) : Rising Upd.key (insU l (below Upd.key l u.key) u) := by
  have hne : ∀ x ∈ l, x.key ≠ u.key := fun x hx e => by
    have : hasKey Upd.key l u.key = true := hasKey_iff.2 ⟨x, hx, e⟩
    rw [hno] at this; exact absurd this (by simp)
  unfold insU
  have h1 : ∀ a ∈ l.take (below Upd.key l u.key), bl a.key u.key = true := by
    intro a ha
    obtain ⟨i, hi, rfl⟩ := List.getElem_of_mem ha
    rw [List.length_take] at hi
    rw [List.getElem_take]
    exact (hr.below u.key i (by omega)).2 (by omega)
  have h2 : ∀ b ∈ l.drop (below Upd.key l u.key), bl u.key b.key = true := by
    intro b hb
    obtain ⟨i, hi, rfl⟩ := List.getElem_of_mem hb
    rw [List.length_drop] at hi
    rw [List.getElem_drop]
    have hb' : ¬ bl (l[below Upd.key l u.key + i]'(by omega)).key u.key = true := by
      rw [hr.below u.key _ (by omega)]; omega
    rcases bl_not (Bool.not_eq_true _ ▸ hb' : bl (l[below Upd.key l u.key + i]'(by omega)).key u.key = false) with e | e
    · exact absurd e.symm (hne _ (List.getElem_mem _))
    · exact e
  have h3 : Rising Upd.key (l.take (below Upd.key l u.key) ++ l.drop (below Upd.key l u.key)) := by rw [List.take_append_drop]; exact hr
  have h4 := List.pairwise_append.1 h3
  refine List.pairwise_append.2 ⟨h4.1, List.pairwise_cons.2 ⟨h2, h4.2.1⟩, fun a ha b hb => ?_⟩
  rcases List.mem_cons.1 hb with rfl | hb
  · exact h1 a ha
  · exact h4.2.2 a ha b hb

theorem withL_new {l : List Upd} {u : Upd} (h : hasKey Upd.key l u.key = false) : withL l u = insU l (below Upd.key l u.key) u := by
  unfold withL
  rw [dif_neg (by simp [h])]
theorem withL_old {l : List Upd} {u : Upd} (hr : Rising Upd.key l) (h : hasKey Upd.key l u.key = true) : ∃ (i : Nat) (hi : i < l.length), l[i].key = u.key ∧ withL l u = l.set i (joinL l[i] u) := by
  obtain ⟨hlt, hk⟩ := (hr.found u.key).1 h
  refine ⟨_, hlt, hk, ?_⟩
  unfold withL
  rw [dif_pos ⟨hlt, h⟩]
theorem withL_rising {l : List Upd} (hr : Rising Upd.key l) (u : Upd) : Rising Upd.key (withL l u) := by
  cases h : hasKey Upd.key l u.key with
  | false => rw [withL_new h]; exact insU_rising hr u h
  | true =>
    obtain ⟨i, hi, hk, e⟩ := withL_old hr h
    rw [e, rising_map, List.map_set, joinL_key, ← hk]
    have : (l.map Upd.key).set i l[i].key = l.map Upd.key := by
      apply List.ext_getElem (by simp)
      intro j h1 h2
      rw [List.getElem_set]
      split
      · rename_i e; subst e; simp
      · rfl
    rw [this, ← rising_map]
    exact hr
theorem withL_len {l : List Upd} (hr : Rising Upd.key l) (u : Upd) : (withL l u).length ≤ l.length + 1 := by
  cases h : hasKey Upd.key l u.key with
  | false => rw [withL_new h, insU_len]; exact Nat.le_refl _
  | true =>
    obtain ⟨i, hi, hk, e⟩ := withL_old hr h
    rw [e, List.length_set]; omega
theorem withL_fine {l : List Upd} (hr : Rising Upd.key l) (hf : Fine l) (u : Upd) (hu : u.Wf ∧ u.val.length ≤ 1000000) : Fine (withL l u) := by
  cases h : hasKey Upd.key l u.key with
  | false =>
    rw [withL_new h]
    intro x hx
    rcases insU_mem.1 hx with rfl | hx
    · exact hu
    · exact hf x hx
  | true =>
    obtain ⟨i, hi, hk, e⟩ := withL_old hr h
    rw [e]
    intro x hx
    rcases List.mem_or_eq_of_mem_set hx with hx | rfl
    · exact hf x hx
    · exact joinL_fine _ _ (hf _ (List.getElem_mem hi)) hu

/-- One behind the other. -/
def withAll (us : List Upd) : List Upd := us.foldl withL []
theorem withAll_snoc (us : List Upd) (u : Upd) : withAll (us ++ [u]) = withL (withAll us) u := by simp [withAll]
theorem withAll_ok : ∀ (us : List Upd), (∀ u ∈ us, u.Wf ∧ u.val.length ≤ 1000000) → Rising Upd.key (withAll us) ∧ Fine (withAll us) ∧ (withAll us).length ≤ us.length := by
  intro us
  induction us using snoc_ind with
  | h0 => intro _; exact ⟨List.Pairwise.nil, fun u hu => by simp [withAll] at hu, by simp [withAll]⟩
  | h1 us u ih =>
    intro h
    obtain ⟨h1, h2, h3⟩ := ih (fun x hx => h x (by simp [hx]))
    rw [withAll_snoc]
    refine ⟨withL_rising h1 u, withL_fine h1 h2 u (h u (by simp)), ?_⟩
    have := withL_len h1 u
    simp only [List.length_append, List.length_singleton]
    omega
/-- Of unlike keys: just all of them. -/
theorem withAll_perm : ∀ (us : List Upd), (∀ u ∈ us, u.Wf ∧ u.val.length ≤ 1000000) → (us.map Upd.key).Nodup → (withAll us).Perm us := by
  intro us
  induction us using snoc_ind with
  | h0 => intro _ _; exact List.Perm.refl _
  | h1 us u ih =>
    intro h hn
    rw [List.map_append, List.nodup_append] at hn
    have hp := ih (fun x hx => h x (by simp [hx])) hn.1
    have hno : hasKey Upd.key (withAll us) u.key = false := by
      rw [Bool.eq_false_iff]
      intro hk
      obtain ⟨x, hx, e⟩ := hasKey_iff.1 hk
      have hx' := hp.mem_iff.1 hx
      exact hn.2.2 x.key (List.mem_map.2 ⟨x, hx', rfl⟩) u.key (by simp) e
    rw [withAll_snoc, withL_new hno]
    exact (insU_perm _ _ _).trans ((List.Perm.cons u hp).trans (List.perm_append_singleton u us).symm)
/-- Two lists by rising keys that hold the same are one. -/
theorem rising_unique : ∀ (a b : List Upd), Rising Upd.key a → Rising Upd.key b → a.Perm b → a = b
  | [], b, _, _, hp => (List.Perm.nil_eq hp)
  | x :: a, b, ha, hb, hp => by
    cases b with
    | nil => exact absurd hp.length_eq (by simp)
    | cons y b =>
      have hxy : x = y := by
        have h1 := hp.mem_iff.1 (List.mem_cons_self (a := x) (l := a))
        have h2 := hp.mem_iff.2 (List.mem_cons_self (a := y) (l := b))
        rcases List.mem_cons.1 h1 with e | h1
        · exact e
        · rcases List.mem_cons.1 h2 with e | h2
          · exact e.symm
          · have k1 := ha.cons.1 y h2
            have k2 := hb.cons.1 x h1
            have := bl_asymm k1
            rw [k2] at this
            exact absurd this (by simp)
      subst hxy
      rw [rising_unique a b ha.cons.2 hb.cons.2 (List.Perm.cons_inv hp)]

end Go.Proofs.YtafciefjlkdecaaGreat

namespace Go.Proofs.YtafciefjlkdecaaGreat
open Go.RowKit

/-- An update that may be, of a short key and a short value. -/
structure Tm (u : Upd) : Prop where
  wf : u.Wf
  kind : u.kind = 1 ∨ u.kind = 2 ∨ u.kind = 3
  val : u.kind = 1 ∨ u.val = []
  delta : u.kind = 3 ∨ u.delta = 0
  klen : u.key.length ≤ 3
  kpos : 1 ≤ u.key.length
  vlen : u.val.length ≤ 20
theorem Tm.check {u : Upd} (h : Tm u) : u.check = 0 := by
  have h1 := h.kind
  have h2 := h.val
  have h3 := h.delta
  have h4 := h.klen
  have h5 := h.kpos
  have h6 := h.vlen
  unfold Upd.check
  rw [if_neg (by omega), if_neg]
  rintro (h | h | ⟨h, h'⟩ | ⟨h, h'⟩)
  · omega
  · omega
  · rcases h2 with h2 | h2
    · exact h h2
    · exact h' h2
  · rcases h3 with h3 | h3
    · exact h h3
    · exact h' h3
theorem joinL_one {f t : Upd} (ht : t.kind = 3) (hf : f.kind = 1) (h8 : ¬ f.val.length = 8) : joinL f t = ⟨1, t.key, f.val, 0⟩ := by
  rw [joinL_put f t ht (by omega), onL_put [] false f hf]
  simp only [onL_add f.val t ht h8]
theorem joinL_num {f t : Upd} (ht : t.kind = 3) (hf : f.kind = 1) (h8 : f.val.length = 8) : joinL f t = ⟨1, t.key, le ((numL f.val + t.delta) % 18446744073709551616) 8, 0⟩ := by
  rw [joinL_put f t ht (by omega), onL_put [] false f hf]
  simp only [onL_add8 f.val t ht h8]
theorem joinL_two {f t : Upd} (ht : t.kind = 3) (hf : f.kind = 2) : joinL f t = ⟨1, t.key, le (t.delta % 18446744073709551616) 8, 0⟩ := by
  rw [joinL_put f t ht (by omega), onL_del [] false f hf]
  simp only [onL_add0 [] t ht]
theorem joinL_tm {f t : Upd} (hf : Tm f) (ht : Tm t) : Tm (joinL f t) := by
  by_cases h3 : t.kind = 3
  · have hw : (0 : Nat) < 18446744073709551616 := by decide
    rcases hf.kind with h | h | h
    · by_cases h8 : f.val.length = 8
      · rw [joinL_num h3 h h8]
        exact ⟨⟨by show (1 : Nat) < 256; decide, hw⟩, Or.inl rfl, Or.inl rfl, Or.inr rfl, ht.klen, ht.kpos, by show (le _ 8).length ≤ 20; rw [le_length]; decide⟩
      · rw [joinL_one h3 h h8]
        exact ⟨⟨by show (1 : Nat) < 256; decide, hw⟩, Or.inl rfl, Or.inl rfl, Or.inr rfl, ht.klen, ht.kpos, hf.vlen⟩
    · rw [joinL_two h3 h]
      exact ⟨⟨by show (1 : Nat) < 256; decide, hw⟩, Or.inl rfl, Or.inl rfl, Or.inr rfl, ht.klen, ht.kpos, by show (le _ 8).length ≤ 20; rw [le_length]; decide⟩
    · rw [joinL_add f t h3 h]
      have hv : t.val = [] := ht.val.resolve_left (by omega)
      exact ⟨⟨by show (3 : Nat) < 256; decide, Nat.mod_lt _ (by decide)⟩, Or.inr (Or.inr rfl), Or.inr hv, Or.inl rfl, ht.klen, ht.kpos, ht.vlen⟩
  · rw [joinL_not f t h3]; exact ht
/-- One step of the document's With. -/
def wStep (u : Upd) (st : List Upd × Bool) (x : Upd) : List Upd × Bool :=
  if x.key = u.key then (st.1 ++ [joinL x u], true)
  else if st.2 = false ∧ bl u.key x.key = true then (st.1 ++ [u] ++ [x], true) else (st.1 ++ [x], st.2)
def wFold (u : Upd) (l : List Upd) : List Upd × Bool := l.foldl (wStep u) ([], false)
def wOut (u : Upd) (l : List Upd) : List Upd := if (wFold u l).2 then (wFold u l).1 else (wFold u l).1 ++ [u]
theorem wFold_snoc (u : Upd) (l : List Upd) (j : Nat) (hj : j < l.length) : wFold u (l.take (j + 1)) = wStep u (wFold u (l.take j)) l[j] := by
  unfold wFold
  rw [List.take_succ_eq_append_getElem hj, List.foldl_append]
  rfl
theorem wStep_len (u : Upd) (st : List Upd × Bool) (x : Upd) : (wStep u st x).1.length ≤ st.1.length + 2 := by
  unfold wStep
  split
  · simp
  · split <;> simp
theorem wFold_len (u : Upd) (l : List Upd) : ∀ j, j ≤ l.length → (wFold u (l.take j)).1.length ≤ 2 * j
  | 0, _ => by simp [wFold]
  | j + 1, h => by
    have := wFold_len u l j (by omega)
    rw [wFold_snoc u l j (by omega)]
    have h2 := wStep_len u (wFold u (l.take j)) (l[j]'(by omega))
    omega

/-- In a rising list: what is below a key, perhaps the one of that key, what is above it. -/
theorem wFold_below (u : Upd) : ∀ (l acc : List Upd), (∀ x ∈ l, bl x.key u.key = true) → l.foldl (wStep u) (acc, false) = (acc ++ l, false)
  | [], acc, _ => by simp
  | x :: l, acc, h => by
    have hx := h x (List.mem_cons_self ..)
    have e : wStep u (acc, false) x = (acc ++ [x], false) := by
      unfold wStep
      rw [if_neg (bl_ne hx), if_neg (by rw [bl_asymm hx]; simp)]
    rw [List.foldl_cons, e, wFold_below u l (acc ++ [x]) (fun y hy => h y (List.mem_cons_of_mem _ hy))]
    simp
theorem wFold_above (u : Upd) : ∀ (l acc : List Upd), (∀ x ∈ l, bl u.key x.key = true) → l.foldl (wStep u) (acc, true) = (acc ++ l, true)
  | [], acc, _ => by simp
  | x :: l, acc, h => by
    have hx := h x (List.mem_cons_self ..)
    have e : wStep u (acc, true) x = (acc ++ [x], true) := by
      unfold wStep
      rw [if_neg (fun k => bl_ne hx k.symm), if_neg (by simp)]
    rw [List.foldl_cons, e, wFold_above u l (acc ++ [x]) (fun y hy => h y (List.mem_cons_of_mem _ hy))]
    simp
theorem take_below {l : List Upd} (hr : Rising Upd.key l) (k : List UInt8) : ∀ x ∈ l.take (below Upd.key l k), bl x.key k = true := by
  intro x hx
  obtain ⟨i, hi, rfl⟩ := List.mem_take_iff_getElem.1 hx
  exact (hr.below k i (by omega)).2 (by omega)
theorem drop_above {l : List Upd} (hr : Rising Upd.key l) (k : List UInt8) (n : Nat) (hno : ∀ h : n < l.length, bl k (l[n]'h).key = true) : ∀ x ∈ l.drop n, bl k x.key = true := by
  intro x hx
  obtain ⟨i, hi, rfl⟩ := List.mem_iff_getElem.1 hx
  rw [List.getElem_drop]
  rw [List.length_drop] at hi
  have h0 := hno (by omega)
  cases i with
  | zero => exact h0
  | succ i => exact bl_trans h0 (hr.lt (show n < n + (i + 1) by omega) (by omega))
theorem wOut_with {l : List Upd} (hr : Rising Upd.key l) (u : Upd) : wOut u l = withL l u := by
  have hb := below_le (key := Upd.key) l u.key
  have hsplit : l = l.take (below Upd.key l u.key) ++ l.drop (below Upd.key l u.key) := (List.take_append_drop _ _).symm
  have h1 := wFold_below u (l.take (below Upd.key l u.key)) [] (take_below hr u.key)
  have hfold : wFold u l = (l.drop (below Upd.key l u.key)).foldl (wStep u) (l.take (below Upd.key l u.key), false) := by
    unfold wFold
    conv => lhs; rw [hsplit]
    rw [List.foldl_append, h1, List.nil_append]
  by_cases hlt : below Upd.key l u.key < l.length
  · have hnb : bl (l[below Upd.key l u.key]).key u.key = false := by
      cases h : bl (l[below Upd.key l u.key]).key u.key with
      | false => rfl
      | true => have := (hr.below u.key _ hlt).1 h; omega
    have hd := List.drop_eq_getElem_cons hlt
    by_cases hk : (l[below Upd.key l u.key]).key = u.key
    · have hh : hasKey Upd.key l u.key = true := (hr.found u.key).2 ⟨hlt, hk⟩
      have hab := drop_above hr u.key (below Upd.key l u.key + 1) (fun h => by have h2 := hr.lt (Nat.lt_succ_self _) h; rw [hk] at h2; exact h2)
      have e : wStep u (l.take (below Upd.key l u.key), false) l[below Upd.key l u.key] = (l.take (below Upd.key l u.key) ++ [joinL l[below Upd.key l u.key] u], true) := by
        unfold wStep; rw [if_pos hk]
      have hf : wFold u l = (l.take (below Upd.key l u.key) ++ [joinL l[below Upd.key l u.key] u] ++ l.drop (below Upd.key l u.key + 1), true) := by
        rw [hfold, hd, List.foldl_cons, e, wFold_above u _ _ hab]
      unfold wOut withL
      rw [hf, dif_pos ⟨hlt, hh⟩, List.set_eq_take_append_cons_drop, if_pos hlt]
      simp
    · have hb2 : bl u.key (l[below Upd.key l u.key]).key = true := by
        rcases bl_tri (l[below Upd.key l u.key]).key u.key with h | h | h
        · exact absurd h hk
        · rw [hnb] at h; exact absurd h (by simp)
        · exact h
      have hh : hasKey Upd.key l u.key = false := by
        cases h : hasKey Upd.key l u.key with
        | false => rfl
        | true => obtain ⟨_, h2⟩ := (hr.found u.key).1 h; exact absurd h2 hk
      have hab := drop_above hr u.key (below Upd.key l u.key + 1) (fun h => bl_trans hb2 (hr.lt (Nat.lt_succ_self _) h))
      have e : wStep u (l.take (below Upd.key l u.key), false) l[below Upd.key l u.key] = (l.take (below Upd.key l u.key) ++ [u] ++ [l[below Upd.key l u.key]], true) := by
        unfold wStep; rw [if_neg hk, if_pos ⟨rfl, hb2⟩]
      have hf : wFold u l = (l.take (below Upd.key l u.key) ++ [u] ++ [l[below Upd.key l u.key]] ++ l.drop (below Upd.key l u.key + 1), true) := by
        rw [hfold, hd, List.foldl_cons, e, wFold_above u _ _ hab]
      unfold wOut withL
      rw [hf, dif_neg (by simp [hh])]
      simp only [if_true, insU]
      rw [hd]
      simp
  · have he : below Upd.key l u.key = l.length := by omega
    have hh : hasKey Upd.key l u.key = false := by
      cases h : hasKey Upd.key l u.key with
      | false => rfl
      | true => obtain ⟨h2, _⟩ := (hr.found u.key).1 h; omega
    have hf : wFold u l = (l, false) := by
      rw [hfold, he, List.drop_length, List.take_length]; rfl
    unfold wOut withL
    rw [hf, dif_neg (by simp [hh]), he]
    simp [insU]

/-- Is a key within? -/
def withinB (k low high : List UInt8) : Bool := !(bl k low) && (high.isEmpty || bl k high)
theorem cut_filter {l : List Upd} (hr : Rising Upd.key l) (low high : List UInt8) :
    cutIn l low high = l.filter (fun u => withinB u.key low high) ∧ cutOut l low high = l.filter (fun u => !withinB u.key low high) := by
  have hce := cutEnd_le l low high
  generalize hi : below Upd.key l low = i at *
  generalize hk : cutEnd l low high = k at *
  have hmid : ∀ x ∈ (l.drop i).take (k - i), withinB x.key low high = true := by
    intro x hx
    obtain ⟨j, hj, rfl⟩ := List.mem_take_iff_getElem.1 hx
    rw [List.length_drop] at hj
    rw [List.getElem_drop]
    unfold withinB
    have h1 : bl (l[i + j]'(by omega)).key low = false := by
      cases h : bl (l[i + j]'(by omega)).key low with
      | false => rfl
      | true => have := (hr.below low _ (by omega)).1 h; omega
    rw [h1]
    cases hh : high with
    | nil => rfl
    | cons a t =>
      have h2 : bl (l[i + j]'(by omega)).key high = true := by
        refine (hr.below high _ (by omega)).2 ?_
        have : k = max i (below Upd.key l high) := by rw [← hk, cutEnd, hi, if_neg (by rw [hh]; simp)]
        omega
      rw [hh] at h2
      simp [h2]
  have hlow : ∀ x ∈ l.take i, withinB x.key low high = false := by
    intro x hx
    have := take_below hr low x (by rw [hi]; exact hx)
    unfold withinB
    rw [this]; rfl
  have hup : ∀ x ∈ l.drop k, withinB x.key low high = false := by
    intro x hx
    obtain ⟨j, hj, rfl⟩ := List.mem_iff_getElem.1 hx
    rw [List.length_drop] at hj
    rw [List.getElem_drop]
    unfold withinB
    by_cases hh : high = []
    · have : k = max i l.length := by rw [← hk, cutEnd, hi, if_pos hh]
      omega
    · have hke : k = max i (below Upd.key l high) := by rw [← hk, cutEnd, hi, if_neg hh]
      have h2 : bl (l[k + j]'(by omega)).key high = false := by
        cases h : bl (l[k + j]'(by omega)).key high with
        | false => rfl
        | true => have := (hr.below high _ (by omega)).1 h; omega
      have h3 : high.isEmpty = false := by cases high <;> simp at hh ⊢
      rw [h2, h3]; simp
  have hl : l = l.take i ++ ((l.drop i).take (k - i) ++ l.drop k) := by
    have e1 : l.drop k = (l.drop i).drop (k - i) := by rw [List.drop_drop]; congr 1; omega
    rw [e1, List.take_append_drop, List.take_append_drop]
  have f1 : ∀ (p : Upd → Bool) (s : List Upd), (∀ x ∈ s, p x = true) → s.filter p = s := fun p s h => List.filter_eq_self.2 h
  have f0 : ∀ (p : Upd → Bool) (s : List Upd), (∀ x ∈ s, p x = false) → s.filter p = [] := fun p s h => List.filter_eq_nil_iff.2 (fun x hx => by rw [h x hx]; simp)
  constructor
  · unfold cutIn
    rw [hi, hk]
    conv => rhs; rw [hl]
    rw [List.filter_append, List.filter_append, f0 _ _ hlow, f1 _ _ hmid, f0 _ _ hup]; simp
  · unfold cutOut
    rw [hi, hk]
    conv => rhs; rw [hl]
    rw [List.filter_append, List.filter_append, f1 _ _ (fun x hx => by rw [hlow x hx]; rfl), f0 _ _ (fun x hx => by rw [hmid x hx]; rfl), f1 _ _ (fun x hx => by rw [hup x hx]; rfl)]; simp

end Go.Proofs.YtafciefjlkdecaaGreat

namespace Go.Proofs.YtafciefjlkdecaaGreat
open Go.RowKit

/-- An update in a box. -/
structure UAt (w : World) (g : Nat) (x : Upd) : Prop where
  c0 : w.cell? ⟨g, 0, none⟩ = some (.int .u8 x.kind)
  c1 : w.cell? ⟨g, 1, none⟩ = some (.string (S x.key))
  c2 : w.cell? ⟨g, 2, none⟩ = some (.string (S x.val))
  c3 : w.cell? ⟨g, 3, none⟩ = some (.int .u64 x.delta)
  free : ∀ i, w.frozen? ⟨g, i, none⟩ = false
  lt : g < w.heap.size
theorem UAt.new (w : World) (t : TypeId) : UAt (w.alloc (.cells #[.int .u8 0, .string ByteArray.empty, .string ByteArray.empty, .int .u64 0] t)) w.heap.size ⟨0, [], [], 0⟩ :=
  ⟨by simp, by simp; rfl, by simp; rfl, by simp, fun i => by simp, by simp⟩
theorem UAt.on {w w' : World} {g B : Nat} {x : Upd} (h : UAt w g x) (hb : Below B w w') (hB : g < B) : UAt w' g x :=
  ⟨(hb.cell (p := ⟨g, 0, none⟩) hB).trans h.c0, (hb.cell (p := ⟨g, 1, none⟩) hB).trans h.c1, (hb.cell (p := ⟨g, 2, none⟩) hB).trans h.c2, (hb.cell (p := ⟨g, 3, none⟩) hB).trans h.c3, fun i => (hb.frozen (p := ⟨g, i, none⟩) hB).trans (h.free i), Nat.lt_of_lt_of_le h.lt hb.size⟩
theorem UAt.far {w : World} {g : Nat} {x : Upd} (h : UAt w g x) {p : Addr} (hp : p.block ≠ g) (v : Value) : UAt (w.setCell p v) g x :=
  ⟨(World.cell?_setCell_far w p _ v hp).trans h.c0, (World.cell?_setCell_far w p _ v hp).trans h.c1, (World.cell?_setCell_far w p _ v hp).trans h.c2, (World.cell?_setCell_far w p _ v hp).trans h.c3, fun i => by rw [World.frozen?_setCell]; exact h.free i, by rw [World.size_setCell]; exact h.lt⟩
theorem off_ne {g i j : Nat} (h : i ≠ j) : (⟨g, i, none⟩ : Addr) ≠ ⟨g, j, none⟩ := fun e => h (by injection e)
theorem UAt.setKey {w : World} {g : Nat} {x : Upd} (h : UAt w g x) (k : List UInt8) : UAt (w.setCell ⟨g, 1, none⟩ (.string (S k))) g ⟨x.kind, k, x.val, x.delta⟩ :=
  ⟨(World.cell?_setCell_other w _ _ _ (off_ne (by decide))).trans h.c0, World.cell?_setCell_same w _ _ h.c1, (World.cell?_setCell_other w _ _ _ (off_ne (by decide))).trans h.c2, (World.cell?_setCell_other w _ _ _ (off_ne (by decide))).trans h.c3, fun i => by rw [World.frozen?_setCell]; exact h.free i, by rw [World.size_setCell]; exact h.lt⟩
theorem UAt.setVal {w : World} {g : Nat} {x : Upd} (h : UAt w g x) (k : List UInt8) : UAt (w.setCell ⟨g, 2, none⟩ (.string (S k))) g ⟨x.kind, x.key, k, x.delta⟩ :=
  ⟨(World.cell?_setCell_other w _ _ _ (off_ne (by decide))).trans h.c0, (World.cell?_setCell_other w _ _ _ (off_ne (by decide))).trans h.c1, World.cell?_setCell_same w _ _ h.c2, (World.cell?_setCell_other w _ _ _ (off_ne (by decide))).trans h.c3, fun i => by rw [World.frozen?_setCell]; exact h.free i, by rw [World.size_setCell]; exact h.lt⟩
theorem UAt.setDelta {w : World} {g : Nat} {x : Upd} (h : UAt w g x) (d : Nat) : UAt (w.setCell ⟨g, 3, none⟩ (.int .u64 d)) g ⟨x.kind, x.key, x.val, d⟩ :=
  ⟨(World.cell?_setCell_other w _ _ _ (off_ne (by decide))).trans h.c0, (World.cell?_setCell_other w _ _ _ (off_ne (by decide))).trans h.c1, (World.cell?_setCell_other w _ _ _ (off_ne (by decide))).trans h.c2, World.cell?_setCell_same w _ _ h.c3, fun i => by rw [World.frozen?_setCell]; exact h.free i, by rw [World.size_setCell]; exact h.lt⟩
theorem UAt.of (w : World) (t : TypeId) (k : Nat) (key : List UInt8) : UAt (w.alloc (.cells #[.int .u8 k, .string (S key), .string ByteArray.empty, .int .u64 0] t)) w.heap.size ⟨k, key, [], 0⟩ :=
  ⟨by simp, by simp, by simp; rfl, by simp, fun i => by simp, by simp⟩
theorem UAt.full (w : World) (g : Nat) (hg : w.heap.size = g) (x : Upd) (t : TypeId) : UAt (w.alloc (.cells #[.int .u8 x.kind, .string (S x.key), .string (S x.val), .int .u64 x.delta] t)) g x := by
  subst hg
  exact ⟨by simp, by simp, by simp, by simp, fun i => by simp, by simp⟩
theorem UAt.alloc {w : World} {g : Nat} {x : Upd} (h : UAt w g x) (o : Obj) : UAt (w.alloc o) g x := h.on ((Below.refl w.heap.size w).alloc (Nat.le_refl _) o) h.lt

end Go.Proofs.YtafciefjlkdecaaGreat

namespace Go.Proofs.YtafciefjlkdecaaGreat
open Go.RowKit
attribute [local go_sem ↓] Go.wp_at_zero Go.wp_at_succ

/-- An update's bytes, put together. -/
theorem bytes_put (u : Upd) (h : u.kind = 1) : u.bytes = [UInt8.ofNat u.kind] ++ joinT u.key ++ joinT u.val := by
  unfold Upd.bytes joinT; rw [if_pos h, if_neg (by omega)]; simp
theorem bytes_del (u : Upd) (h : u.kind = 2) : u.bytes = [UInt8.ofNat u.kind] ++ joinT u.key := by
  unfold Upd.bytes joinT; rw [if_neg (by omega), if_neg (by omega)]; simp
theorem bytes_add (u : Upd) (h : u.kind = 3) : u.bytes = [UInt8.ofNat u.kind] ++ joinT u.key ++ le u.delta 8 := by
  unfold Upd.bytes joinT; rw [if_neg (by omega), if_pos h]; simp

theorem intsW_lies (w : World) (b : Nat) (hb : w.heap.size = b) (c : Array Value) (e : TypeId) (ps : List (Nat × Nat)) (hc : c.toList = ps.map fun p => .int .i64 p.1) : IntsW (w.alloc (.cells c e (0, 0))) (some ⟨b, 0, none⟩) ps := by
  subst hb
  exact intsW_new w c e (0, 0) ps hc
theorem numsW_lies (w : World) (b : Nat) (hb : w.heap.size = b) (c : Array Value) (e : TypeId) (ps : List (Nat × Nat)) (hc : c.toList = ps.map fun p => .int .u64 p.2) : NumsW (w.alloc (.cells c e (0, 0))) (some ⟨b, 0, none⟩) ps := by
  subst hb
  exact numsW_new w c e (0, 0) ps hc
set_option maxRecDepth 100000 in
set_option maxHeartbeats 4000000 in
theorem bytes_any (k : Nat) (key val : List UInt8) (d : Nat) (hu : Tm ⟨k, key, val, d⟩) (w : World) :
    Calls Tryz.prog 182 #[.agg #[.int .u8 k, .string (S key), .string (S val), .int .u64 d]] w fun e w' => e = .returned (.string (S (Upd.mk k key val d).bytes)) ∧ Below w.heap.size w w' := by
  have hkl : key.length ≤ 3 := hu.klen
  have hvl : val.length ≤ 20 := hu.vlen
  have hd : d < 18446744073709551616 := hu.wf.2
  have hkk := hu.kind
  have hb1 := bytes_put ⟨k, key, val, d⟩
  have hb2 := bytes_del ⟨k, key, val, d⟩
  have hb3 := bytes_add ⟨k, key, val, d⟩
  have hcv := fun w n c => run_str1 (P := Tryz.prog) 22 9 5 Tryz.underlying22 Tryz.underlying5 Tryz.underlying9 w n c
  have HJK := Lib.hid (fun W => lendJoin_any key (by omega) W)
  have HJV := Lib.hid (fun W => lendJoin_any val (by omega) W)
  dsimp only at hkk hb1 hb2 hb3
  generalize (Upd.mk k key val d).bytes = B at *
  have hJK := joinT_len key
  have hJV := joinT_len val
  generalize joinT key = JK at *
  generalize joinT val = JV at *
  have hJKl : JK.length ≤ 4 := by omega
  have hJVl : JV.length ≤ 21 := by omega
  clear hu hkl hvl hJK hJV
  rcases hkk with rfl | rfl | rfl
  · have HB := Lib.hid (hb1 rfl)
    clear hb1 hb2 hb3
    go_enter Tryz.func182, Tryz.ntmps182
    go_wp2_with fail
    refine (thread (HJK.out _) _ _ (Below.refl _ _) (Nat.le_refl _)).mono ?_
    rintro e w1 ⟨rfl, hX1, hk1, -, -, hz1⟩
    have c0 : w1.cell? ⟨w.heap.size, 0, none⟩ = some (.int .u8 1) := (hk1 w.heap.size 0 (by simp)).trans (by simp)
    have c2 : w1.cell? ⟨w.heap.size, 2, none⟩ = some (.string (S val)) := (hk1 w.heap.size 2 (by simp)).trans (by simp)
    have HB1 := Lib.hid (show Below w.heap.size w w1 from Below.trans (by go_grown) (hX1.mono (by simp)))
    have d0 := cell_past (.cells #[.int .u8 1] 5) c0
    have d2 := cell_past (.cells #[.int .u8 1] 5) c2
    have hzz := HB1.out.size
    clear hk1 hX1 hz1
    go_wp2_with fail
    refine (thread (HJV.out _) w1.heap.size w1 (by go_grown) (by go_grown)).mono ?_
    rintro e w2 ⟨rfl, hX2, -, -, -, hz2⟩
    have hB2 := HB1.out.trans (hX2.mono hzz)
    go_wp2_with fail
    go_ret
    exact ⟨ret_val (by rw [HB.out]; simp), hB2⟩
  · have HB := Lib.hid (hb2 rfl)
    clear hb1 hb2 hb3
    go_enter Tryz.func182, Tryz.ntmps182
    go_wp2_with fail
    refine (thread (HJK.out _) _ _ (Below.refl _ _) (Nat.le_refl _)).mono ?_
    rintro e w1 ⟨rfl, hX1, hk1, -, -, hz1⟩
    have c0 : w1.cell? ⟨w.heap.size, 0, none⟩ = some (.int .u8 2) := (hk1 w.heap.size 0 (by simp)).trans (by simp)
    have HB1 := Lib.hid (show Below w.heap.size w w1 from Below.trans (by go_grown) (hX1.mono (by simp)))
    have d0 := cell_past (.cells #[.int .u8 2] 5) c0
    have hzz := HB1.out.size
    clear hk1 hX1 hz1
    go_wp2_with fail
    go_ret
    exact ⟨ret_val (by rw [HB.out]; simp), HB1.out.alloc hzz _⟩
  · have HB := Lib.hid (hb3 rfl)
    clear hb1 hb2 hb3
    go_enter Tryz.func182, Tryz.ntmps182
    go_wp2_with fail
    refine (thread (HJK.out _) _ _ (Below.refl _ _) (Nat.le_refl _)).mono ?_
    rintro e w1 ⟨rfl, hX1, hk1, -, -, hz1⟩
    have c0 : w1.cell? ⟨w.heap.size, 0, none⟩ = some (.int .u8 3) := (hk1 w.heap.size 0 (by simp)).trans (by simp)
    have c3 : w1.cell? ⟨w.heap.size, 3, none⟩ = some (.int .u64 d) := (hk1 w.heap.size 3 (by simp)).trans (by simp)
    have HB1 := Lib.hid (show Below w.heap.size w w1 from Below.trans (by go_grown) (hX1.mono (by simp)))
    have d0 := cell_past (.cells #[.int .u8 3] 5) c0
    have d3 := cell_past (.cells #[.int .i64 8] 3) (cell_past (.cells #[.int .u8 3] 5) c3)
    have hzz := HB1.out.size
    have hI := (intsW_lies (w1.alloc (.cells #[.int .u8 3] 5)) (w1.heap.size + 1) (by simp) #[.int .i64 8] 3 [(8, d)] rfl).kept (Below.alloc (Below.refl _ _) (Nat.le_refl _) (.cells #[.int .u64 d] 25)) (Nat.le_refl _)
    have hN := numsW_lies ((w1.alloc (.cells #[.int .u8 3] 5)).alloc (.cells #[.int .i64 8] 3)) (w1.heap.size + 1 + 1) (by simp) #[.int .u64 d] 25 [(8, d)] rfl
    have hwr := write_fit _ _ 1 1 [(8, d)] _ hI hN (wide1 8 d (by decide) (by decide)) (fun p hp => by rw [List.mem_singleton] at hp; rw [hp]; exact hd) (by simp)
    have hwt : wtext [(8, d)] = le d 8 := by simp [wtext]
    rw [hwt] at hwr
    have HWR := Lib.hid hwr
    clear hk1 hX1 hz1 hwr hI hN hwt
    go_wp2_with fail
    refine (thread HWR.out w1.heap.size w1 (by go_grown) (by go_grown)).mono ?_
    rintro e w2 ⟨rfl, hX2, -, -, -, hz2⟩
    have hB2 := HB1.out.trans (hX2.mono hzz)
    go_wp2_with fail
    go_ret
    exact ⟨ret_val (by rw [HB.out]; simp), hB2⟩

/-- The bytes of updates. -/
def textU (l : List Upd) : List UInt8 := l.flatMap Upd.bytes
theorem textU_acc : ∀ (l : List Upd) (acc : List UInt8), (∀ u ∈ l, Tm u) → textAcc acc l = (acc ++ textU l, 0)
  | [], acc, _ => by simp [textAcc, textU]
  | u :: l, acc, h => by
    unfold textAcc
    rw [if_pos (h u (List.mem_cons_self ..)).check, textU_acc l _ (fun x hx => h x (List.mem_cons_of_mem _ hx))]
    simp [textU]
theorem textU_step {l : List Upd} {i : Nat} (hi : i < l.length) : textU (l.take (i + 1)) = textU (l.take i) ++ (l[i]).bytes := by
  rw [List.take_succ_eq_append_getElem hi]; simp only [textU, List.flatMap_append, List.flatMap_cons, List.flatMap_nil, List.append_nil]
theorem bytes_40 {u : Upd} (h : Tm u) : u.bytes.length ≤ 40 := by
  have h2 := h.klen
  have h3 := h.vlen
  unfold Upd.bytes
  simp only [List.length_append, List.length_cons, List.length_nil]
  split <;> split <;> simp <;> omega
theorem textU_len : ∀ l : List Upd, (∀ u ∈ l, Tm u) → (textU l).length ≤ 40 * l.length
  | [], _ => by simp [textU]
  | u :: l, h => by
    have h1 := textU_len l (fun x hx => h x (List.mem_cons_of_mem _ hx))
    have h2 := bytes_40 (h u (List.mem_cons_self ..))
    have h3 : (textU (u :: l)).length = u.bytes.length + (textU l).length := by simp [textU]
    rw [h3, List.length_cons]; omega

set_option maxRecDepth 100000 in
set_option maxHeartbeats 4000000 in
theorem recText_any (a : Option Addr) (n c : Nat) (l : List Upd) (w : World) (hn : n = l.length) (hs : SlAt Upd.cells 4 w a l) (hl : l.length ≤ 10000) (hf : ∀ u ∈ l, Tm u) :
    Calls Tryz.prog 167 #[.slice a n c] w fun e w' => e = .returned (.tuple #[.string (S (textU l)), .int .i64 0]) ∧ Below w.heap.size w w' := by
  have HN := Lib.hid hn
  clear hn
  go_enter Tryz.func167, Tryz.ntmps167
  go_wp2_with fail
  go_loopw [10] (fun i wr => ∃ j : Nat, i = .int .i64 j ∧ j ≤ n ∧ IsB w.heap.size w.heap.size (Lib.byteCells (textU (l.take j))) wr ∧ Below w.heap.size w wr ∧ w.heap.size < wr.heap.size) (fun i _ => n - (intOf i).toNat)
  case atStart => exact ⟨0, rfl, Nat.zero_le _, by simpa [textU, Lib.byteCells] using Lib.fresh_isBuilder 200 5 w, by go_grown, by simp⟩
  case round =>
    obtain ⟨j, rfl, hj, hI, hB, hz⟩ := hrel
    have hj0 : (0 : Int) ≤ (j : Int) := Int.natCast_nonneg _
    have HI := Lib.hid hI
    clear hI
    by_cases hjn : j < n
    · have hj1 : (j : Int) < (n : Int) := by omega
      have hjl : j < l.length := by have := HN.out; omega
      obtain ⟨b, off, rfl, hb, t0, t1, t2, t3⟩ := SlAt.cells4 hs j hjl
      have q0 := (cell_below hB hb _).trans t0
      have q1 := (cell_below hB hb _).trans t1
      have q2 := (cell_below hB hb _).trans t2
      have q3 := (cell_below hB hb _).trans t3
      have hT := hf _ (List.getElem_mem hjl)
      have hst := Lib.hid (textU_step hjl)
      have htl := textU_len (l.take j) (fun x hx => hf x (List.mem_of_mem_take hx))
      rw [List.length_take] at htl
      clear t0 t1 t2 t3
      generalize l[j] = u at *
      have hbl := bytes_40 hT
      have HC := Lib.hid (fun W => chk u.kind u.key u.val u.delta hT.wf.1 hT.wf.2 W)
      rw [show (Upd.mk u.kind u.key u.val u.delta).check = 0 from hT.check] at HC
      have HBY := Lib.hid (fun W => bytes_any u.kind u.key u.val u.delta hT W)
      rw [show (Upd.mk u.kind u.key u.val u.delta).bytes = u.bytes from rfl] at HBY
      generalize u.bytes = UB at *
      clear hT
      go_wp2_with fail
      refine (thread (HC.out _) wr.heap.size wr (by go_grown) (by go_grown)).mono ?_
      rintro e w1 ⟨rfl, hX1, hk1, -, -, hz1⟩
      have e0 : w1.cell? ⟨wr.heap.size, 0, none⟩ = some (.int .u8 u.kind) := (hk1 wr.heap.size 0 (by simp)).trans (by simp)
      have e1 : w1.cell? ⟨wr.heap.size, 1, none⟩ = some (.string (S u.key)) := (hk1 wr.heap.size 1 (by simp)).trans (by simp)
      have e2 : w1.cell? ⟨wr.heap.size, 2, none⟩ = some (.string (S u.val)) := (hk1 wr.heap.size 2 (by simp)).trans (by simp)
      have e3 : w1.cell? ⟨wr.heap.size, 3, none⟩ = some (.int .u64 u.delta) := (hk1 wr.heap.size 3 (by simp)).trans (by simp)
      clear hk1
      go_wp2_with fail
      refine (thread (HBY.out _) wr.heap.size wr hX1 hz1).mono ?_
      rintro e w2 ⟨rfl, hX2, -, -, -, hz2⟩
      have HI2 := Lib.hid (HI.out.on hX2)
      have hB2 := hB.trans (hX2.mono hB.size)
      have HW := Lib.hid (bld_write w.heap.size w.heap.size _ (S UB) w2 HI2.out (by rw [Lib.byteCells_length, S_size]; omega) hB2.size)
      clear HI HC HBY hX1 hX2 e0 e1 e2 e3 htl hbl
      go_wp2_with fail
      refine (HW.out).mono ?_
      rintro e w3 ⟨rfl, hI3, hX3⟩
      rw [strCells_S, ← byteCells_app, ← hst.out] at hI3
      have hB3 := hB2.trans hX3
      have hz3 : w.heap.size < w3.heap.size := by have := hX3.size; omega
      clear HW
      go_wp2_with fail
      go_roundw
      (case rel => exact (⟨j + 1, by go_num, by omega, hI3, hB3, hz3⟩))
      (case measure => first | (simp [intOf]; done) | (simp [intOf]; omega))
    · obtain rfl : j = n := by omega
      have hta : l.take j = l := by rw [HN.out, List.take_length]
      rw [hta] at HI
      clear hta
      go_wp2_with fail
      refine (bld_string w.heap.size w.heap.size (textU l) wr HI.out (by omega)).mono ?_
      rintro e w1 ⟨rfl, hX1⟩
      go_wp2_with fail
      go_ret2
      exact ⟨rfl, hB.trans hX1⟩

set_option maxRecDepth 100000 in
set_option maxHeartbeats 1000000 in
theorem bufText_any (a : Option Addr) (n c : Nat) (l : List Upd) (w : World) (hn : n = l.length) (hs : SlAt Upd.cells 4 w a l) (hl : l.length ≤ 10000) (hf : ∀ u ∈ l, Tm u) :
    Calls Tryz.prog 138 #[.agg #[.slice a n c]] w fun e w' => e = .returned (.tuple #[.string (S (textU l)), .int .i64 0]) ∧ Below w.heap.size w w' := by
  have HS := Lib.hid hs
  have HT := Lib.hid (fun W h => recText_any a n c l W hn h hl hf)
  clear hs hn hf hl
  go_enter Tryz.func138, Tryz.ntmps138
  go_wp2_with fail
  refine (thread (HT.out _ (HS.out.kept (B := w.heap.size) (by go_grown) (Nat.le_refl _))) w.heap.size w (by go_grown) (by go_grown)).mono ?_
  rintro e w1 ⟨rfl, hX1, -, -, -, hz1⟩
  go_wp2_with fail
  go_ret2
  exact ⟨rfl, hX1⟩

end Go.Proofs.YtafciefjlkdecaaGreat

namespace Go.Proofs.YtafciefjlkdecaaGreat
open Go.RowKit

theorem splitL_len (s : List UInt8) : (splitL s).2.1.length ≤ s.length ∧ ((splitL s).2.2 = true → (splitL s).2.1.length < s.length) := by
  cases s with
  | nil => simp [splitL]
  | cons b r =>
    by_cases h : r.length < b.toNat
    · simp [splitL, h]
    · simp [splitL, h]; omega
theorem splitL_fst (s : List UInt8) : (splitL s).1.length ≤ s.length := by
  cases s with
  | nil => simp [splitL]
  | cons b r =>
    by_cases h : r.length < b.toNat
    · simp [splitL, h]
    · simp [splitL, h]; omega

end Go.Proofs.YtafciefjlkdecaaGreat

namespace Go.Proofs.YtafciefjlkdecaaGreat
open Go.RowKit

/-- The update at the head of bytes whose first one is b; what is left. -/
def restU (b : UInt8) (key more : List UInt8) : Option (Upd × List UInt8) :=
  if b.toNat = 1 then (if (splitL more).2.2 then some (⟨1, key, (splitL more).1, 0⟩, (splitL more).2.1) else none)
  else if b.toNat = 3 then (if more.length < 8 then none else some (⟨3, key, [], numL (more.take 8)⟩, more.drop 8))
  else some (⟨b.toNat, key, [], 0⟩, more)
def stepU (s : List UInt8) : Option (Upd × List UInt8) :=
  match s with
  | [] => none
  | b :: r => if (splitL r).2.2 then (match restU b (splitL r).1 (splitL r).2.1 with
    | none => none
    | some (u, m) => if u.check = 0 then some (u, m) else none) else none
theorem restU_len {b : UInt8} {key more m : List UInt8} {u : Upd} (h : restU b key more = some (u, m)) : m.length ≤ more.length := by
  unfold restU at h
  have h1 := (splitL_len more).1
  split at h
  · split at h
    · simp only [Option.some.injEq, Prod.mk.injEq] at h; rw [← h.2]; exact h1
    · simp at h
  · split at h
    · split at h
      · simp at h
      · simp only [Option.some.injEq, Prod.mk.injEq] at h; rw [← h.2, List.length_drop]; omega
    · simp only [Option.some.injEq, Prod.mk.injEq] at h; rw [← h.2]; exact Nat.le_refl _
theorem stepU_len {s m : List UInt8} {u : Upd} (h : stepU s = some (u, m)) : m.length + 1 ≤ s.length := by
  unfold stepU at h
  split at h
  · simp at h
  · rename_i b r
    split at h
    · split at h
      · simp at h
      · rename_i u' m' hr
        split at h
        · simp only [Option.some.injEq, Prod.mk.injEq] at h
          have h1 := restU_len hr
          have h2 := (splitL_len r).1
          rw [h.2] at h1
          rw [List.length_cons]; omega
        · simp at h
    · simp at h
theorem numL_take (l : List UInt8) (hl : 8 ≤ l.length) : numL (l.take 8) < 18446744073709551616 := by
  have := numL_lt (l.take 8)
  rw [List.length_take, Nat.min_eq_left hl] at this
  exact this
theorem restU_wf {b : UInt8} {key more m : List UInt8} {u : Upd} (h : restU b key more = some (u, m)) : u.Wf := by
  have hb := b.toNat_lt
  unfold restU at h
  split at h
  · split at h
    · simp only [Option.some.injEq, Prod.mk.injEq] at h; rw [← h.1]; exact ⟨by show (1 : Nat) < 256; decide, by show (0 : Nat) < _; decide⟩
    · simp at h
  · split at h
    · split at h
      · simp at h
      · simp only [Option.some.injEq, Prod.mk.injEq] at h; rw [← h.1]; exact ⟨by show (3 : Nat) < 256; decide, numL_take more (by omega)⟩
    · simp only [Option.some.injEq, Prod.mk.injEq] at h; rw [← h.1]; exact ⟨hb, by show (0 : Nat) < _; decide⟩
theorem stepU_ok {s m : List UInt8} {u : Upd} (h : stepU s = some (u, m)) : u.Wf ∧ u.check = 0 := by
  unfold stepU at h
  split at h
  · simp at h
  · split at h
    · split at h
      · simp at h
      · rename_i u' m' hr
        split at h
        · rename_i hc
          simp only [Option.some.injEq, Prod.mk.injEq] at h
          rw [← h.1]
          exact ⟨restU_wf hr, hc⟩
        · simp at h
    · simp at h

def rawUN : Nat → List UInt8 → Option (List Upd)
  | 0, _ => some []
  | n + 1, s => if s = [] then some [] else match stepU s with
    | none => none
    | some (e, r) => (rawUN n r).map fun l => e :: l
theorem rawUN_same : ∀ (n m : Nat) (s : List UInt8), s.length ≤ n → s.length ≤ m → rawUN n s = rawUN m s
  | 0, 0, _, _, _ => rfl
  | 0, m + 1, s, h, _ => by
    have : s = [] := List.eq_nil_of_length_eq_zero (by omega)
    simp [rawUN, this]
  | n + 1, 0, s, _, h => by
    have : s = [] := List.eq_nil_of_length_eq_zero (by omega)
    simp [rawUN, this]
  | n + 1, m + 1, s, h, k => by
    unfold rawUN
    by_cases h0 : s = []
    · simp [h0]
    · rw [if_neg h0, if_neg h0]
      cases hs : stepU s with
      | none => rfl
      | some p =>
        obtain ⟨e, r⟩ := p
        have := stepU_len hs
        simp only
        rw [rawUN_same n m r (by omega) (by omega)]
def rawU (s : List UInt8) : Option (List Upd) := rawUN s.length s
theorem rawU_nil : rawU [] = some [] := rfl
theorem rawU_none {s : List UInt8} (h0 : s ≠ []) (h : stepU s = none) : rawU s = none := by
  unfold rawU
  cases hl : s.length with
  | zero => exact absurd (List.eq_nil_of_length_eq_zero hl) h0
  | succ n => simp [rawUN, h0, h]
theorem rawU_some {s r : List UInt8} {e : Upd} (h0 : s ≠ []) (h : stepU s = some (e, r)) : rawU s = (rawU r).map fun l => e :: l := by
  have hlt := stepU_len h
  unfold rawU
  cases hl : s.length with
  | zero => exact absurd (List.eq_nil_of_length_eq_zero hl) h0
  | succ n =>
    conv => lhs; unfold rawUN
    rw [if_neg h0, h]
    simp only
    rw [rawUN_same n r.length r (by omega) (Nat.le_refl _)]
theorem rawU_more {s0 s r : List UInt8} {acc : List Upd} {e : Upd} (h : rawU s0 = (rawU s).map fun l => acc ++ l) (h0 : s ≠ []) (k : stepU s = some (e, r)) : rawU s0 = (rawU r).map fun l => (acc ++ [e]) ++ l := by
  rw [h, rawU_some h0 k]
  cases rawU r <;> simp
theorem rawU_stop {s0 s : List UInt8} {acc : List Upd} (h : rawU s0 = (rawU s).map fun l => acc ++ l) (h0 : s ≠ []) (k : stepU s = none) : rawU s0 = none := by
  rw [h, rawU_none h0 k]; rfl
theorem rawU_end {s0 : List UInt8} {acc : List Upd} (h : rawU s0 = (rawU []).map fun l => acc ++ l) : rawU s0 = some acc := by
  rw [h, rawU_nil]; simp
theorem rawUN_all : ∀ (n : Nat) (s : List UInt8) (l : List Upd), rawUN n s = some l → l.length ≤ n ∧ ∀ u ∈ l, u.Wf ∧ u.check = 0
  | 0, _, l, h => by simp only [rawUN, Option.some.injEq] at h; rw [← h]; exact ⟨Nat.le_refl _, fun u hu => by simp at hu⟩
  | n + 1, s, l, h => by
    unfold rawUN at h
    split at h
    · simp only [Option.some.injEq] at h; rw [← h]; exact ⟨Nat.zero_le _, fun u hu => by simp at hu⟩
    · split at h
      · simp at h
      · rename_i e r hs
        cases hr : rawUN n r with
        | none => rw [hr] at h; simp at h
        | some t =>
          rw [hr] at h
          simp only [Option.map_some, Option.some.injEq] at h
          obtain ⟨h1, h2⟩ := rawUN_all n r t hr
          rw [← h]
          refine ⟨by rw [List.length_cons]; omega, fun u hu => ?_⟩
          rcases List.mem_cons.1 hu with rfl | hu
          · exact stepU_ok hs
          · exact h2 u hu

/-- Are updates by rising keys? -/
def risingB (l : List Upd) : Bool := decide (l.Pairwise fun a b => bl a.key b.key = true)
theorem risingB_iff (l : List Upd) : risingB l = true ↔ Rising Upd.key l := by
  unfold risingB Rising
  rw [decide_eq_true_iff]
/-- The updates of bytes, and the error's number. -/
def recU (s : List UInt8) : List Upd × Nat :=
  match rawU s with
  | none => ([], 4)
  | some l => (l, 0)
/-- The buffer of bytes, and the error's number. -/
def parseU (s : List UInt8) : List Upd × Nat :=
  match rawU s with
  | none => ([], 4)
  | some l => if risingB l then (l, 0) else ([], 4)
theorem recU_all (s : List UInt8) : (recU s).1.length ≤ s.length ∧ ∀ u ∈ (recU s).1, u.Wf ∧ u.check = 0 := by
  unfold recU
  split
  · exact ⟨Nat.zero_le _, fun u hu => by simp at hu⟩
  · rename_i l h
    exact rawUN_all _ _ _ h
theorem parseU_of (s : List UInt8) : parseU s = if (recU s).2 = 0 then (if risingB (recU s).1 then ((recU s).1, 0) else ([], 4)) else ([], (recU s).2) := by
  unfold parseU recU
  cases rawU s <;> simp
theorem recU_two (s : List UInt8) : (recU s).2 = 0 ∨ (recU s).2 = 4 ∧ (recU s).1 = [] := by
  unfold recU
  cases rawU s <;> simp
theorem parseU_rising (s : List UInt8) : Rising Upd.key (parseU s).1 := by
  unfold parseU
  split
  · exact List.Pairwise.nil
  · split
    · rename_i h; exact (risingB_iff _).1 h
    · exact List.Pairwise.nil
theorem parseU_all (s : List UInt8) : (parseU s).1.length ≤ s.length ∧ ∀ u ∈ (parseU s).1, u.Wf ∧ u.check = 0 := by
  have h := recU_all s
  rw [parseU_of]
  split
  · split
    · exact h
    · exact ⟨Nat.zero_le _, fun u hu => by simp at hu⟩
  · exact ⟨Nat.zero_le _, fun u hu => by simp at hu⟩

end Go.Proofs.YtafciefjlkdecaaGreat
