/-
  Plain laws on a leaf's entries: what an update makes of them, told by what each key has.
-/
import Derived.Test.YtcjeonamebnpfaaLeafO
import Derived.Test.YtcjeonamebnpfaaUse
namespace Go.Proofs.Ytcjeonamebnpfaa
open Go.RowKit

/-- The value of a key, if it is there. -/
def lookE (l : List Ent) (k : List UInt8) : Option (List UInt8) := (l.find? fun e => e.key == k).map Ent.val
/-- What an update makes of its key's value. -/
def actE (u : Upd) (o : Option (List UInt8)) : Option (List UInt8) :=
  if u.check ≠ 0 then o
  else
    let r := match o with
      | some v => onL v true u
      | none => onL [] false u
    if r.2 then some r.1 else none

theorem lookE_none {l : List Ent} {k : List UInt8} (h : hasKey Ent.key l k = false) : lookE l k = none := by
  unfold lookE
  rw [Option.map_eq_none_iff, List.find?_eq_none]
  intro e he hk
  have : hasKey Ent.key l k = true := hasKey_iff.2 ⟨e, he, by simpa using hk⟩
  rw [h] at this; exact absurd this (by simp)
theorem lookE_at {l : List Ent} (hr : Rising Ent.key l) (i : Nat) (hi : i < l.length) : lookE l l[i].key = some l[i].val := by
  unfold lookE
  rw [List.find?_eq_some_iff_getElem.2 ⟨by simp, i, hi, rfl, fun j hj => by simpa using bl_ne (hr.lt hj hi)⟩]
  rfl
theorem lookE_mem {l : List Ent} (hr : Rising Ent.key l) (e : Ent) (he : e ∈ l) : lookE l e.key = some e.val := by
  obtain ⟨i, hi, rfl⟩ := List.getElem_of_mem he
  exact lookE_at hr i hi
theorem mem_lookE {l : List Ent} {k v : List UInt8} (h : lookE l k = some v) : (⟨k, v⟩ : Ent) ∈ l := by
  unfold lookE at h
  rw [Option.map_eq_some_iff] at h
  obtain ⟨e, he, hv⟩ := h
  have h1 := List.find?_some he
  have h2 := List.mem_of_find?_eq_some he
  have : e = ⟨k, v⟩ := by cases e; simp at h1 hv; rw [h1, hv]
  rwa [this] at h2
/-- By rising keys, and of the same members: one. -/
theorem risingE_unique : ∀ (a b : List Ent), Rising Ent.key a → Rising Ent.key b → (∀ e, e ∈ a ↔ e ∈ b) → a = b
  | [], [], _, _, _ => rfl
  | [], y :: b, _, _, h => by have := (h y).2 (by simp); simp at this
  | x :: a, [], _, _, h => by have := (h x).1 (by simp); simp at this
  | x :: a, y :: b, ha, hb, h => by
    have hnx : ∀ e ∈ a, e.key ≠ x.key := fun e he k => bl_ne (ha.cons.1 e he) k.symm
    have hny : ∀ e ∈ b, e.key ≠ y.key := fun e he k => bl_ne (hb.cons.1 e he) k.symm
    have hxy : x = y := by
      rcases List.mem_cons.1 ((h x).1 (by simp)) with e | h1
      · exact e
      · rcases List.mem_cons.1 ((h y).2 (by simp)) with e | h2
        · exact e.symm
        · have k1 := ha.cons.1 y h2
          have k2 := hb.cons.1 x h1
          rw [bl_asymm k1] at k2
          exact absurd k2 (by simp)
    subst hxy
    rw [risingE_unique a b ha.cons.2 hb.cons.2 (fun e => ?_)]
    constructor
    · intro he
      rcases List.mem_cons.1 ((h e).1 (List.mem_cons_of_mem _ he)) with e' | h1
      · exact absurd (by rw [e']) (hnx e he)
      · exact h1
    · intro he
      rcases List.mem_cons.1 ((h e).2 (List.mem_cons_of_mem _ he)) with e' | h1
      · exact absurd (by rw [e']) (hny e he)
      · exact h1
theorem lookE_ext {a b : List Ent} (ha : Rising Ent.key a) (hb : Rising Ent.key b) (h : ∀ k, lookE a k = lookE b k) : a = b :=
  risingE_unique a b ha hb fun e => ⟨fun he => by have := lookE_mem ha e he; rw [h] at this; exact mem_lookE this, fun he => by have := lookE_mem hb e he; rw [← h] at this; exact mem_lookE this⟩

/-! ### the three things that an update may do -/
theorem insE_mem {l : List Ent} {i : Nat} {u x : Ent} : x ∈ insE l i u ↔ x = u ∨ x ∈ l := by
  unfold insE
  rw [List.mem_append, List.mem_cons]
  have : x ∈ l ↔ x ∈ l.take i ∨ x ∈ l.drop i := by rw [← List.mem_append, List.take_append_drop]
  rw [this]
  constructor
  · rintro (h | h | h)
    · exact Or.inr (Or.inl h)
    · exact Or.inl h
    · exact Or.inr (Or.inr h)
  · rintro (h | h | h)
    · exact Or.inr (Or.inl h)
    · exact Or.inl h
    · exact Or.inr (Or.inr h)
theorem hasKeyE_not {l : List Ent} {k : List UInt8} (hno : hasKey Ent.key l k = false) : ∀ x ∈ l, x.key ≠ k := fun x hx e => by
  have : hasKey Ent.key l k = true := hasKey_iff.2 ⟨x, hx, e⟩
  rw [hno] at this; exact absurd this (by simp)
theorem insE_rising {l : List Ent} (hr : Rising Ent.key l) (u : Ent) (hno : hasKey Ent.key l u.key = false) : Rising Ent.key (insE l (below Ent.key l u.key) u) := by
  have hne := hasKeyE_not hno
  unfold insE
  have h1 : ∀ a ∈ l.take (below Ent.key l u.key), bl a.key u.key = true := by
    intro a ha
    obtain ⟨i, hi, rfl⟩ := List.getElem_of_mem ha
    rw [List.length_take] at hi
    rw [List.getElem_take]
    exact (hr.below u.key i (by omega)).2 (by omega)
  have h2 : ∀ b ∈ l.drop (below Ent.key l u.key), bl u.key b.key = true := by
    intro b hb
    obtain ⟨i, hi, rfl⟩ := List.getElem_of_mem hb
    rw [List.length_drop] at hi
    rw [List.getElem_drop]
    have hb' : ¬ bl (l[below Ent.key l u.key + i]'(by omega)).key u.key = true := by
      rw [hr.below u.key _ (by omega)]; omega
    rcases bl_not (Bool.not_eq_true _ ▸ hb' : bl (l[below Ent.key l u.key + i]'(by omega)).key u.key = false) with e | e
    · exact absurd e.symm (hne _ (List.getElem_mem _))
    · exact e
  have h3 : Rising Ent.key (l.take (below Ent.key l u.key) ++ l.drop (below Ent.key l u.key)) := by rw [List.take_append_drop]; exact hr
  have h4 := List.pairwise_append.1 h3
  refine List.pairwise_append.2 ⟨h4.1, List.pairwise_cons.2 ⟨h2, h4.2.1⟩, fun a ha b hb => ?_⟩
  rcases List.mem_cons.1 hb with rfl | hb
  · exact h1 a ha
  · exact h4.2.2 a ha b hb
theorem delE_eq (l : List Ent) (i : Nat) : delE l i = l.eraseIdx i := by rw [delE, List.eraseIdx_eq_take_drop_succ]
theorem delE_sub (l : List Ent) (i : Nat) : (delE l i).Sublist l := by rw [delE_eq]; exact List.eraseIdx_sublist l i
theorem delE_rising {l : List Ent} (hr : Rising Ent.key l) (i : Nat) : Rising Ent.key (delE l i) := List.Pairwise.sublist (delE_sub l i) hr
theorem setE_rising {l : List Ent} (hr : Rising Ent.key l) (i : Nat) (hi : i < l.length) (y : List UInt8) : Rising Ent.key (l.set i ⟨l[i].key, y⟩) := by
  have e : ∀ m : List Ent, Rising Ent.key m ↔ (m.map Ent.key).Pairwise (fun a b => bl a b = true) := fun m => by unfold Rising; rw [List.pairwise_map]
  rw [e, List.map_set]
  have : (l.map Ent.key).set i l[i].key = l.map Ent.key := by
    apply List.ext_getElem (by simp)
    intro j h1 h2
    rw [List.getElem_set]
    split
    · rename_i e; subst e; simp
    · rfl
  rw [this, ← e]
  exact hr

/-- The lookup in a list by rising keys, by its members. -/
theorem lookE_iff {l : List Ent} (hr : Rising Ent.key l) (k v : List UInt8) : lookE l k = some v ↔ (⟨k, v⟩ : Ent) ∈ l := ⟨mem_lookE, fun h => lookE_mem hr _ h⟩
theorem lookE_by {l : List Ent} (hr : Rising Ent.key l) (k : List UInt8) (o : Option (List UInt8)) (h : ∀ v, (⟨k, v⟩ : Ent) ∈ l ↔ o = some v) : lookE l k = o := by
  cases hl : lookE l k with
  | some v => exact ((h v).1 ((lookE_iff hr k v).1 hl)).symm
  | none =>
    cases o with
    | none => rfl
    | some v => rw [(lookE_iff hr k v).2 ((h v).2 rfl)] at hl; exact hl.symm
theorem mem_delE {l : List Ent} (hr : Rising Ent.key l) (i : Nat) (hi : i < l.length) (e : Ent) : e ∈ delE l i ↔ e ∈ l ∧ e.key ≠ l[i].key := by
  constructor
  · intro h
    refine ⟨(delE_sub l i).subset h, fun hk => ?_⟩
    unfold delE at h
    rcases List.mem_append.1 h with h | h
    · obtain ⟨j, hj, rfl⟩ := List.getElem_of_mem h
      rw [List.length_take] at hj
      rw [List.getElem_take] at hk
      exact bl_ne (hr.lt (show j < i by omega) hi) hk
    · obtain ⟨j, hj, rfl⟩ := List.getElem_of_mem h
      rw [List.length_drop] at hj
      rw [List.getElem_drop] at hk
      exact bl_ne (hr.lt (show i < i + 1 + j by omega) (by omega)) hk.symm
  · rintro ⟨h, hk⟩
    obtain ⟨j, hj, rfl⟩ := List.getElem_of_mem h
    unfold delE
    rw [List.mem_append]
    have hji : j ≠ i := fun e => hk (by subst e; rfl)
    rcases Nat.lt_or_ge j i with h1 | h1
    · exact Or.inl (List.mem_take_iff_getElem.2 ⟨j, by omega, rfl⟩)
    · exact Or.inr (List.mem_drop_iff_getElem.2 ⟨j - (i + 1), by omega, by congr 1; omega⟩)
theorem mem_setE {l : List Ent} (hr : Rising Ent.key l) (i : Nat) (hi : i < l.length) (y : List UInt8) (e : Ent) : e ∈ l.set i ⟨l[i].key, y⟩ ↔ e = ⟨l[i].key, y⟩ ∨ (e ∈ l ∧ e.key ≠ l[i].key) := by
  rw [List.mem_iff_getElem]
  constructor
  · rintro ⟨j, hj, he⟩
    rw [List.length_set] at hj
    rw [List.getElem_set] at he
    split at he
    · exact Or.inl he.symm
    · rename_i hij
      refine Or.inr ⟨he ▸ List.getElem_mem hj, fun hk => ?_⟩
      rw [← he] at hk
      rcases Nat.lt_or_gt_of_ne hij with h1 | h1
      · exact bl_ne (hr.lt h1 hj) hk.symm
      · exact bl_ne (hr.lt h1 hi) hk
  · rintro (rfl | ⟨h, hk⟩)
    · exact ⟨i, by rw [List.length_set]; exact hi, by simp⟩
    · obtain ⟨j, hj, rfl⟩ := List.getElem_of_mem h
      refine ⟨j, by rw [List.length_set]; exact hj, ?_⟩
      rw [List.getElem_set, if_neg (fun e => hk (by subst e; rfl))]

/-! ### an update -/
theorem onE_cases (l : List Ent) (u : Upd) (hr : Rising Ent.key l) :
    (onE l u = l ∧ actE u (lookE l u.key) = lookE l u.key) ∨
    (hasKey Ent.key l u.key = false ∧ ∃ y, actE u (lookE l u.key) = some y ∧ onL [] false u = (y, true) ∧ u.check = 0 ∧ onE l u = insE l (below Ent.key l u.key) ⟨u.key, y⟩) ∨
    (∃ (i : Nat) (hi : i < l.length), l[i].key = u.key ∧ ∃ y, actE u (lookE l u.key) = some y ∧ onL l[i].val true u = (y, true) ∧ u.check = 0 ∧ onE l u = l.set i ⟨l[i].key, y⟩) ∨
    (∃ (i : Nat) (hi : i < l.length), l[i].key = u.key ∧ actE u (lookE l u.key) = none ∧ onE l u = delE l i) := by
  by_cases hc : u.check = 0
  · have hc' : ¬ u.check ≠ 0 := by simp [hc]
    unfold onE newE actE
    rw [if_neg hc', if_neg hc']
    cases hh : hasKey Ent.key l u.key with
    | false =>
      rw [lookE_none hh]
      cases hy : onL [] false u with
      | mk y is => cases is <;> simp [hc]
    | true =>
      obtain ⟨hlt, hkey⟩ := (hr.found u.key).1 hh
      have ho : oldE l u.key = (l[below Ent.key l u.key]'hlt).val := by unfold oldE; rw [List.getElem?_eq_getElem hlt]; rfl
      have hl := lookE_at hr _ hlt
      rw [hkey] at hl
      rw [hl, ho]
      generalize below Ent.key l u.key = i at *
      cases hy : onL (l[i]'hlt).val true u with
      | mk y is =>
        cases is with
        | true => exact Or.inr (Or.inr (Or.inl ⟨i, hlt, hkey, y, by simp [hy], hy, hc, by simp [hkey]⟩))
        | false => exact Or.inr (Or.inr (Or.inr ⟨i, hlt, hkey, by simp [hy], by simp⟩))
  · left
    unfold onE actE
    rw [if_pos hc, if_pos hc]
    exact ⟨rfl, rfl⟩
theorem onE_rising {l : List Ent} (hr : Rising Ent.key l) (u : Upd) : Rising Ent.key (onE l u) := by
  rcases onE_cases l u hr with ⟨e, -⟩ | ⟨hno, y, -, -, -, e⟩ | ⟨i, hi, -, y, -, -, -, e⟩ | ⟨i, hi, -, -, e⟩
  · rw [e]; exact hr
  · rw [e]; exact insE_rising hr ⟨u.key, y⟩ hno
  · rw [e]; exact setE_rising hr i hi y
  · rw [e]; exact delE_rising hr i
theorem onE_len {l : List Ent} (hr : Rising Ent.key l) (u : Upd) : (onE l u).length ≤ l.length + 1 := by
  rcases onE_cases l u hr with ⟨e, -⟩ | ⟨hno, y, -, -, -, e⟩ | ⟨i, hi, -, y, -, -, -, e⟩ | ⟨i, hi, -, -, e⟩
  · rw [e]; omega
  · rw [e, insE_len _ _ _ (below_le _ _)]; omega
  · rw [e, List.length_set]; omega
  · rw [e, delE_len _ _ hi]; omega
/-- Entries whose values aren't too long. -/
def FineE (l : List Ent) : Prop := ∀ e ∈ l, 1 ≤ e.key.length ∧ e.key.length ≤ 16 ∧ e.val.length ≤ 32
theorem onE_fine {l : List Ent} (hr : Rising Ent.key l) (hf : FineE l) (u : Upd) : FineE (onE l u) := by
  rcases onE_cases l u hr with ⟨e, -⟩ | ⟨hno, y, -, hy, hc, e⟩ | ⟨i, hi, hk, y, -, hy, hc, e⟩ | ⟨i, hi, -, -, e⟩
  · rw [e]; exact hf
  · rw [e]
    intro x hx
    obtain ⟨c1, c2, c3, -⟩ := Upd.check_ok hc
    rcases insE_mem.1 hx with rfl | hx
    · have := onL_len [] false u 32 (by simp) c3 (by decide)
      rw [hy] at this
      exact ⟨c1, c2, this⟩
    · exact hf x hx
  · rw [e]
    intro x hx
    obtain ⟨c1, c2, c3, -⟩ := Upd.check_ok hc
    rcases (mem_setE hr i hi y x).1 hx with rfl | ⟨hx, -⟩
    · have h0 := hf _ (List.getElem_mem hi)
      have := onL_len l[i].val true u 32 h0.2.2 c3 (by decide)
      rw [hy] at this
      exact ⟨h0.1, h0.2.1, this⟩
    · exact hf x hx
  · rw [e]
    exact fun x hx => hf x ((delE_sub l i).subset hx)
theorem onE_look {l : List Ent} (hr : Rising Ent.key l) (u : Upd) (k : List UInt8) : lookE (onE l u) k = if k = u.key then actE u (lookE l k) else lookE l k := by
  have hr' := onE_rising hr u
  by_cases hk : k = u.key
  · subst hk
    rw [if_pos rfl]
    rcases onE_cases l u hr with ⟨e, h⟩ | ⟨hno, y, h, -, -, e⟩ | ⟨i, hi, hki, y, h, -, -, e⟩ | ⟨i, hi, hki, h, e⟩
    · rw [e, h]
    · rw [h]
      exact (lookE_iff hr' _ _).2 (by rw [e]; exact insE_mem.2 (Or.inl rfl))
    · rw [h]
      exact (lookE_iff hr' _ _).2 (by rw [e]; exact (mem_setE hr i hi y _).2 (Or.inl (by rw [hki])))
    · rw [h]
      refine lookE_by hr' _ _ fun v => ⟨fun hm => ?_, fun hm => by cases hm⟩
      rw [e] at hm
      exact absurd hki.symm ((mem_delE hr i hi _).1 hm).2
  · rw [if_neg hk]
    refine lookE_by hr' _ _ fun v => ?_
    rw [lookE_iff hr]
    rcases onE_cases l u hr with ⟨e, h⟩ | ⟨hno, y, h, -, -, e⟩ | ⟨i, hi, hki, y, h, -, -, e⟩ | ⟨i, hi, hki, h, e⟩
    · rw [e]
    · rw [e, insE_mem]
      exact ⟨fun h => h.resolve_left (fun e' => hk (congrArg Ent.key e')), Or.inr⟩
    · rw [e, mem_setE hr i hi, hki]
      exact ⟨fun h => (h.resolve_left (fun e' => hk (congrArg Ent.key e'))).1, fun h => Or.inr ⟨h, hk⟩⟩
    · rw [e, mem_delE hr i hi, hki]
      exact ⟨fun h => h.1, fun h => ⟨h, hk⟩⟩

/-- One behind the other. -/
def onAll (l : List Ent) (us : List Upd) : List Ent := us.foldl onE l
theorem onAll_snoc (l : List Ent) (us : List Upd) (u : Upd) : onAll l (us ++ [u]) = onE (onAll l us) u := by simp [onAll]
theorem onAll_ok (l : List Ent) (hr : Rising Ent.key l) (hf : FineE l) : ∀ us : List Upd, Rising Ent.key (onAll l us) ∧ FineE (onAll l us) ∧ (onAll l us).length ≤ l.length + us.length := by
  intro us
  induction us using snoc_ind with
  | h0 => exact ⟨hr, hf, by simp [onAll]⟩
  | h1 us u ih =>
    obtain ⟨h1, h2, h3⟩ := ih
    rw [onAll_snoc]
    refine ⟨onE_rising h1 u, onE_fine h1 h2 u, ?_⟩
    have := onE_len h1 u
    simp only [List.length_append, List.length_singleton]
    omega
/-- Updates of unlike keys: each key by its own, if there is one. -/
theorem onAll_look (l : List Ent) (hr : Rising Ent.key l) (hf : FineE l) : ∀ us : List Upd, (us.map Upd.key).Nodup → ∀ k, lookE (onAll l us) k = match us.find? (fun u => u.key == k) with | some u => actE u (lookE l k) | none => lookE l k := by
  intro us
  induction us using snoc_ind with
  | h0 => intro _ k; rfl
  | h1 us u ih =>
    intro hn k
    rw [List.map_append, List.nodup_append] at hn
    have h := ih hn.1 k
    rw [onAll_snoc, onE_look (onAll_ok l hr hf us).1, h, List.find?_append]
    by_cases hk : k = u.key
    · subst hk
      rw [if_pos rfl]
      have : us.find? (fun v => v.key == u.key) = none := by
        rw [List.find?_eq_none]
        intro v hv e
        exact hn.2.2 v.key (List.mem_map.2 ⟨v, hv, rfl⟩) u.key (by simp) (by simpa using e)
      rw [this]
      simp
    · rw [if_neg hk]
      cases hu : us.find? (fun v => v.key == k) with
      | some v => simp
      | none =>
        have : (u.key == k) = false := by simpa using fun e => hk e.symm
        simp [this]
/-- .. in whatever order. -/
theorem onAll_perm (l : List Ent) (hr : Rising Ent.key l) (hf : FineE l) (us vs : List Upd) (hn : (us.map Upd.key).Nodup) (hp : vs.Perm us) : onAll l vs = onAll l us := by
  have hn' : (vs.map Upd.key).Nodup := (hp.map Upd.key).nodup_iff.2 hn
  refine lookE_ext (onAll_ok l hr hf vs).1 (onAll_ok l hr hf us).1 fun k => ?_
  rw [onAll_look l hr hf vs hn', onAll_look l hr hf us hn]
  have hfind : vs.find? (fun u => u.key == k) = us.find? (fun u => u.key == k) := by
    have key : ∀ (ws : List Upd), (ws.map Upd.key).Nodup → ∀ u, ws.find? (fun u => u.key == k) = some u ↔ u ∈ ws ∧ u.key = k := by
      intro ws hw u
      constructor
      · intro h
        exact ⟨List.mem_of_find?_eq_some h, by simpa using List.find?_some h⟩
      · rintro ⟨h1, h2⟩
        obtain ⟨i, hi, rfl⟩ := List.getElem_of_mem h1
        refine List.find?_eq_some_iff_getElem.2 ⟨by simpa using h2, i, hi, rfl, fun j hj => ?_⟩
        have hne := (List.pairwise_iff_getElem.1 hw) j i (by simp; omega) (by simpa using hi) hj
        simp only [List.getElem_map] at hne
        rw [h2] at hne
        simpa using hne
    cases hv : vs.find? (fun u => u.key == k) with
    | some u =>
      have := (key vs hn' u).1 hv
      exact ((key us hn u).2 ⟨hp.mem_iff.1 this.1, this.2⟩).symm
    | none =>
      cases hu : us.find? (fun u => u.key == k) with
      | none => rfl
      | some u =>
        have := (key us hn u).1 hu
        rw [(key vs hn' u).2 ⟨hp.mem_iff.2 this.1, this.2⟩] at hv
        exact hv.symm
  rw [hfind]

end Go.Proofs.Ytcjeonamebnpfaa
