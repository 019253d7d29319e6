/-
  Updates that tame made, joined; the document's With and Cut: plain laws, no program in sight.
-/
import Derived.Test.YtcjeonamebnpfaaMsgO
import Derived.Test.YtcjeonamebnpfaaBufW
import Derived.Test.YtcjeonamebnpfaaBufC
import Derived.Test.YtcjeonamebnpfaaOrdP
namespace Go.Proofs.Ytcjeonamebnpfaa
open Go.RowKit

/-- An update that may be, of a short key and a short value. -/
structure Tm (u : Upd) : Prop where
  wf : u.Wf
  kind : u.kind = 1 ∨ u.kind = 2 ∨ u.kind = 3
  val : u.kind = 1 ∨ u.val = []
  delta : u.kind = 3 ∨ u.delta = 0
  klen : u.key.length ≤ 3
  kpos : 1 ≤ u.key.length
  vlen : u.val.length ≤ 20
theorem Tm.check {u : Upd} (h : Tm u) : u.check = 0 := by
  have h1 := h.kind
  have h2 := h.val
  have h3 := h.delta
  have h4 := h.klen
  have h5 := h.kpos
  have h6 := h.vlen
  unfold Upd.check
  rw [if_neg (by omega), if_neg]
  rintro (h | h | ⟨h, h'⟩ | ⟨h, h'⟩)
  · omega
  · omega
  · rcases h2 with h2 | h2
    · exact h h2
    · exact h' h2
  · rcases h3 with h3 | h3
    · exact h h3
    · exact h' h3
theorem joinL_one {f t : Upd} (ht : t.kind = 3) (hf : f.kind = 1) (h8 : ¬ f.val.length = 8) : joinL f t = ⟨1, t.key, f.val, 0⟩ := by
  rw [joinL_put f t ht (by omega), onL_put [] false f hf]
  simp only [onL_add f.val t ht h8]
theorem joinL_num {f t : Upd} (ht : t.kind = 3) (hf : f.kind = 1) (h8 : f.val.length = 8) : joinL f t = ⟨1, t.key, le ((numL f.val + t.delta) % 18446744073709551616) 8, 0⟩ := by
  rw [joinL_put f t ht (by omega), onL_put [] false f hf]
  simp only [onL_add8 f.val t ht h8]
theorem joinL_two {f t : Upd} (ht : t.kind = 3) (hf : f.kind = 2) : joinL f t = ⟨1, t.key, le (t.delta % 18446744073709551616) 8, 0⟩ := by
  rw [joinL_put f t ht (by omega), onL_del [] false f hf]
  simp only [onL_add0 [] t ht]
theorem joinL_tm {f t : Upd} (hf : Tm f) (ht : Tm t) : Tm (joinL f t) := by
  by_cases h3 : t.kind = 3
  · have hw : (0 : Nat) < 18446744073709551616 := by decide
    rcases hf.kind with h | h | h
    · by_cases h8 : f.val.length = 8
      · rw [joinL_num h3 h h8]
        exact ⟨⟨by show (1 : Nat) < 256; decide, hw⟩, Or.inl rfl, Or.inl rfl, Or.inr rfl, ht.klen, ht.kpos, by show (le _ 8).length ≤ 20; rw [le_length]; decide⟩
      · rw [joinL_one h3 h h8]
        exact ⟨⟨by show (1 : Nat) < 256; decide, hw⟩, Or.inl rfl, Or.inl rfl, Or.inr rfl, ht.klen, ht.kpos, hf.vlen⟩
    · rw [joinL_two h3 h]
      exact ⟨⟨by show (1 : Nat) < 256; decide, hw⟩, Or.inl rfl, Or.inl rfl, Or.inr rfl, ht.klen, ht.kpos, by show (le _ 8).length ≤ 20; rw [le_length]; decide⟩
    · rw [joinL_add f t h3 h]
      have hv : t.val = [] := ht.val.resolve_left (by omega)
      exact ⟨⟨by show (3 : Nat) < 256; decide, Nat.mod_lt _ (by decide)⟩, Or.inr (Or.inr rfl), Or.inr hv, Or.inl rfl, ht.klen, ht.kpos, ht.vlen⟩
  · rw [joinL_not f t h3]; exact ht
/-- One step of the document's With. -/
def wStep (u : Upd) (st : List Upd × Bool) (x : Upd) : List Upd × Bool :=
  if x.key = u.key then (st.1 ++ [joinL x u], true)
  else if st.2 = false ∧ bl u.key x.key = true then (st.1 ++ [u] ++ [x], true) else (st.1 ++ [x], st.2)
def wFold (u : Upd) (l : List Upd) : List Upd × Bool := l.foldl (wStep u) ([], false)
def wOut (u : Upd) (l : List Upd) : List Upd := if (wFold u l).2 then (wFold u l).1 else (wFold u l).1 ++ [u]
theorem wFold_snoc (u : Upd) (l : List Upd) (j : Nat) (hj : j < l.length) : wFold u (l.take (j + 1)) = wStep u (wFold u (l.take j)) l[j] := by
  unfold wFold
  rw [List.take_succ_eq_append_getElem hj, List.foldl_append]
  rfl
theorem wStep_len (u : Upd) (st : List Upd × Bool) (x : Upd) : (wStep u st x).1.length ≤ st.1.length + 2 := by
  unfold wStep
  split
  · simp
  · split <;> simp
theorem wFold_len (u : Upd) (l : List Upd) : ∀ j, j ≤ l.length → (wFold u (l.take j)).1.length ≤ 2 * j
  | 0, _ => by simp [wFold]
  | j + 1, h => by
    have := wFold_len u l j (by omega)
    rw [wFold_snoc u l j (by omega)]
    have h2 := wStep_len u (wFold u (l.take j)) (l[j]'(by omega))
    omega

/-- In a rising list: what is below a key, perhaps the one of that key, what is above it. -/
theorem wFold_below (u : Upd) : ∀ (l acc : List Upd), (∀ x ∈ l, bl x.key u.key = true) → l.foldl (wStep u) (acc, false) = (acc ++ l, false)
  | [], acc, _ => by simp
  | x :: l, acc, h => by
    have hx := h x (List.mem_cons_self ..)
    have e : wStep u (acc, false) x = (acc ++ [x], false) := by
      unfold wStep
      rw [if_neg (bl_ne hx), if_neg (by rw [bl_asymm hx]; simp)]
    rw [List.foldl_cons, e, wFold_below u l (acc ++ [x]) (fun y hy => h y (List.mem_cons_of_mem _ hy))]
    simp
theorem wFold_above (u : Upd) : ∀ (l acc : List Upd), (∀ x ∈ l, bl u.key x.key = true) → l.foldl (wStep u) (acc, true) = (acc ++ l, true)
  | [], acc, _ => by simp
  | x :: l, acc, h => by
    have hx := h x (List.mem_cons_self ..)
    have e : wStep u (acc, true) x = (acc ++ [x], true) := by
      unfold wStep
      rw [if_neg (fun k => bl_ne hx k.symm), if_neg (by simp)]
    rw [List.foldl_cons, e, wFold_above u l (acc ++ [x]) (fun y hy => h y (List.mem_cons_of_mem _ hy))]
    simp
theorem take_below {l : List Upd} (hr : Rising Upd.key l) (k : List UInt8) : ∀ x ∈ l.take (below Upd.key l k), bl x.key k = true := by
  intro x hx
  obtain ⟨i, hi, rfl⟩ := List.mem_take_iff_getElem.1 hx
  exact (hr.below k i (by omega)).2 (by omega)
theorem drop_above {l : List Upd} (hr : Rising Upd.key l) (k : List UInt8) (n : Nat) (hno : ∀ h : n < l.length, bl k (l[n]'h).key = true) : ∀ x ∈ l.drop n, bl k x.key = true := by
  intro x hx
  obtain ⟨i, hi, rfl⟩ := List.mem_iff_getElem.1 hx
  rw [List.getElem_drop]
  rw [List.length_drop] at hi
  have h0 := hno (by omega)
  cases i with
  | zero => exact h0
  | succ i => exact bl_trans h0 (hr.lt (show n < n + (i + 1) by omega) (by omega))
theorem wOut_with {l : List Upd} (hr : Rising Upd.key l) (u : Upd) : wOut u l = withL l u := by
  have hb := below_le (key := Upd.key) l u.key
  have hsplit : l = l.take (below Upd.key l u.key) ++ l.drop (below Upd.key l u.key) := (List.take_append_drop _ _).symm
  have h1 := wFold_below u (l.take (below Upd.key l u.key)) [] (take_below hr u.key)
  have hfold : wFold u l = (l.drop (below Upd.key l u.key)).foldl (wStep u) (l.take (below Upd.key l u.key), false) := by
    unfold wFold
    conv => lhs; rw [hsplit]
    rw [List.foldl_append, h1, List.nil_append]
  by_cases hlt : below Upd.key l u.key < l.length
  · have hnb : bl (l[below Upd.key l u.key]).key u.key = false := by
      cases h : bl (l[below Upd.key l u.key]).key u.key with
      | false => rfl
      | true => have := (hr.below u.key _ hlt).1 h; omega
    have hd := List.drop_eq_getElem_cons hlt
    by_cases hk : (l[below Upd.key l u.key]).key = u.key
    · have hh : hasKey Upd.key l u.key = true := (hr.found u.key).2 ⟨hlt, hk⟩
      have hab := drop_above hr u.key (below Upd.key l u.key + 1) (fun h => by have h2 := hr.lt (Nat.lt_succ_self _) h; rw [hk] at h2; exact h2)
      have e : wStep u (l.take (below Upd.key l u.key), false) l[below Upd.key l u.key] = (l.take (below Upd.key l u.key) ++ [joinL l[below Upd.key l u.key] u], true) := by
        unfold wStep; rw [if_pos hk]
      have hf : wFold u l = (l.take (below Upd.key l u.key) ++ [joinL l[below Upd.key l u.key] u] ++ l.drop (below Upd.key l u.key + 1), true) := by
        rw [hfold, hd, List.foldl_cons, e, wFold_above u _ _ hab]
      unfold wOut withL
      rw [hf, dif_pos ⟨hlt, hh⟩, List.set_eq_take_append_cons_drop, if_pos hlt]
      simp
    · have hb2 : bl u.key (l[below Upd.key l u.key]).key = true := by
        rcases bl_tri (l[below Upd.key l u.key]).key u.key with h | h | h
        · exact absurd h hk
        · rw [hnb] at h; exact absurd h (by simp)
        · exact h
      have hh : hasKey Upd.key l u.key = false := by
        cases h : hasKey Upd.key l u.key with
        | false => rfl
        | true => obtain ⟨_, h2⟩ := (hr.found u.key).1 h; exact absurd h2 hk
      have hab := drop_above hr u.key (below Upd.key l u.key + 1) (fun h => bl_trans hb2 (hr.lt (Nat.lt_succ_self _) h))
      have e : wStep u (l.take (below Upd.key l u.key), false) l[below Upd.key l u.key] = (l.take (below Upd.key l u.key) ++ [u] ++ [l[below Upd.key l u.key]], true) := by
        unfold wStep; rw [if_neg hk, if_pos ⟨rfl, hb2⟩]
      have hf : wFold u l = (l.take (below Upd.key l u.key) ++ [u] ++ [l[below Upd.key l u.key]] ++ l.drop (below Upd.key l u.key + 1), true) := by
        rw [hfold, hd, List.foldl_cons, e, wFold_above u _ _ hab]
      unfold wOut withL
      rw [hf, dif_neg (by simp [hh])]
      simp only [if_true, insU]
      rw [hd]
      simp
  · have he : below Upd.key l u.key = l.length := by omega
    have hh : hasKey Upd.key l u.key = false := by
      cases h : hasKey Upd.key l u.key with
      | false => rfl
      | true => obtain ⟨h2, _⟩ := (hr.found u.key).1 h; omega
    have hf : wFold u l = (l, false) := by
      rw [hfold, he, List.drop_length, List.take_length]; rfl
    unfold wOut withL
    rw [hf, dif_neg (by simp [hh]), he]
    simp [insU]

/-- Is a key within? -/
def withinB (k low high : List UInt8) : Bool := !(bl k low) && (high.isEmpty || bl k high)
theorem cut_filter {l : List Upd} (hr : Rising Upd.key l) (low high : List UInt8) :
    cutIn l low high = l.filter (fun u => withinB u.key low high) ∧ cutOut l low high = l.filter (fun u => !withinB u.key low high) := by
  have hce := cutEnd_le l low high
  generalize hi : below Upd.key l low = i at *
  generalize hk : cutEnd l low high = k at *
  have hmid : ∀ x ∈ (l.drop i).take (k - i), withinB x.key low high = true := by
    intro x hx
    obtain ⟨j, hj, rfl⟩ := List.mem_take_iff_getElem.1 hx
    rw [List.length_drop] at hj
    rw [List.getElem_drop]
    unfold withinB
    have h1 : bl (l[i + j]'(by omega)).key low = false := by
      cases h : bl (l[i + j]'(by omega)).key low with
      | false => rfl
      | true => have := (hr.below low _ (by omega)).1 h; omega
    rw [h1]
    cases hh : high with
    | nil => rfl
    | cons a t =>
      have h2 : bl (l[i + j]'(by omega)).key high = true := by
        refine (hr.below high _ (by omega)).2 ?_
        have : k = max i (below Upd.key l high) := by rw [← hk, cutEnd, hi, if_neg (by rw [hh]; simp)]
        omega
      rw [hh] at h2
      simp [h2]
  have hlow : ∀ x ∈ l.take i, withinB x.key low high = false := by
    intro x hx
    have := take_below hr low x (by rw [hi]; exact hx)
    unfold withinB
    rw [this]; rfl
  have hup : ∀ x ∈ l.drop k, withinB x.key low high = false := by
    intro x hx
    obtain ⟨j, hj, rfl⟩ := List.mem_iff_getElem.1 hx
    rw [List.length_drop] at hj
    rw [List.getElem_drop]
    unfold withinB
    by_cases hh : high = []
    · have : k = max i l.length := by rw [← hk, cutEnd, hi, if_pos hh]
      omega
    · have hke : k = max i (below Upd.key l high) := by rw [← hk, cutEnd, hi, if_neg hh]
      have h2 : bl (l[k + j]'(by omega)).key high = false := by
        cases h : bl (l[k + j]'(by omega)).key high with
        | false => rfl
        | true => have := (hr.below high _ (by omega)).1 h; omega
      have h3 : high.isEmpty = false := by cases high <;> simp at hh ⊢
      rw [h2, h3]; simp
  have hl : l = l.take i ++ ((l.drop i).take (k - i) ++ l.drop k) := by
    have e1 : l.drop k = (l.drop i).drop (k - i) := by rw [List.drop_drop]; congr 1; omega
    rw [e1, List.take_append_drop, List.take_append_drop]
  have f1 : ∀ (p : Upd → Bool) (s : List Upd), (∀ x ∈ s, p x = true) → s.filter p = s := fun p s h => List.filter_eq_self.2 h
  have f0 : ∀ (p : Upd → Bool) (s : List Upd), (∀ x ∈ s, p x = false) → s.filter p = [] := fun p s h => List.filter_eq_nil_iff.2 (fun x hx => by rw [h x hx]; simp)
  constructor
  · unfold cutIn
    rw [hi, hk]
    conv => rhs; rw [hl]
    rw [List.filter_append, List.filter_append, f0 _ _ hlow, f1 _ _ hmid, f0 _ _ hup]; simp
  · unfold cutOut
    rw [hi, hk]
    conv => rhs; rw [hl]
    rw [List.filter_append, List.filter_append, f1 _ _ (fun x hx => by rw [hlow x hx]; rfl), f0 _ _ (fun x hx => by rw [hmid x hx]; rfl), f1 _ _ (fun x hx => by rw [hup x hx]; rfl)]; simp

end Go.Proofs.Ytcjeonamebnpfaa
