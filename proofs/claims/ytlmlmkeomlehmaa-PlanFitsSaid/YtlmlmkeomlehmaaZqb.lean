/-
  Plain laws on a leaf's entries: what an update makes of them, told by what each key has.
  The walk of (leaf.Leaf).On: what updates make of a leaf.
  The walk of the document's bytes of entries (layer 16).
  The walk of (leaf.Leaf).Get.
  The walks of strings.Builder's copyCheck and WriteString (after the shelf's own).
  The plain words of layer 18 (plan): when a plan may be, how many bytes its full node and leaf have, its check and its best. No program in sight.
  The walks of layer 18 (plan) and of what it calls: each function once.
-/
import Derived.Test.YtlmlmkeomlehmaaZqa
import Derived.Test.YtlmlmkeomlehmaaZa
import Derived.BigRegion
import Derived.Test.YtlmlmkeomlehmaaZd
namespace Go.Proofs.Ytlmlmkeomlehmaa
open Go.RowKit

/-- The value of a key, if it is there. -/
def lookE (l : List Ent) (k : List UInt8) : Option (List UInt8) := (l.find? fun e => e.key == k).map Ent.val
/-- What an update makes of its key's value. -/
def actE (u : Upd) (o : Option (List UInt8)) : Option (List UInt8) :=
  if u.check ≠ 0 then o
  else
    let r := match o with
      | some v => onL v true u
      | none => onL [] false u
    if r.2 then some r.1 else none

theorem lookE_none {l : List Ent} {k : List UInt8} (h : hasKey Ent.key l k = false) : lookE l k = none := by
  unfold lookE
  rw [Option.map_eq_none_iff, List.find?_eq_none]
  intro e he hk
  have : hasKey Ent.key l k = true := hasKey_iff.2 ⟨e, he, by simpa using hk⟩
  rw [h] at this; exact absurd this (by simp)
theorem lookE_at {l : List Ent} (hr : Rising Ent.key l) (i : Nat) (hi : i < l.length) : lookE l l[i].key = some l[i].val := by
  unfold lookE
  rw [List.find?_eq_some_iff_getElem.2 ⟨by simp, i, hi, rfl, fun j hj => by simpa using bl_ne (hr.lt hj hi)⟩]
  rfl
theorem lookE_mem {l : List Ent} (hr : Rising Ent.key l) (e : Ent) (he : e ∈ l) : lookE l e.key = some e.val := by
  obtain ⟨i, hi, rfl⟩ := List.getElem_of_mem he
  exact lookE_at hr i hi
theorem mem_lookE {l : List Ent} {k v : List UInt8} (h : lookE l k = some v) : (⟨k, v⟩ : Ent) ∈ l := by
  unfold lookE at h
  rw [Option.map_eq_some_iff] at h
  obtain ⟨e, he, hv⟩ := h
  have h1 := List.find?_some he
  have h2 := List.mem_of_find?_eq_some he
  have : e = ⟨k, v⟩ := by cases e; simp at h1 hv; rw [h1, hv]
  rwa [this] at h2
/-- By rising keys, and of the same members: one. -/
theorem risingE_unique : ∀ (a b : List Ent), Rising Ent.key a → Rising Ent.key b → (∀ e, e ∈ a ↔ e ∈ b) → a = b
  | [], [], _, _, _ => rfl
  | [], y :: b, _, _, h => by have := (h y).2 (by simp); simp at this
  | x :: a, [], _, _, h => by have := (h x).1 (by simp); simp at this
  | x :: a, y :: b, ha, hb, h => by
    have hnx : ∀ e ∈ a, e.key ≠ x.key := fun e he k => bl_ne (ha.cons.1 e he) k.symm
    have hny : ∀ e ∈ b, e.key ≠ y.key := fun e he k => bl_ne (hb.cons.1 e he) k.symm
    have hxy : x = y := by
      rcases List.mem_cons.1 ((h x).1 (by simp)) with e | h1
      · exact e
      · rcases List.mem_cons.1 ((h y).2 (by simp)) with e | h2
        · exact e.symm
        · have k1 := ha.cons.1 y h2
          have k2 := hb.cons.1 x h1
          rw [bl_asymm k1] at k2
          exact absurd k2 (by simp)
    subst hxy
    rw [risingE_unique a b ha.cons.2 hb.cons.2 (fun e => ?_)]
    constructor
    · intro he
      rcases List.mem_cons.1 ((h e).1 (List.mem_cons_of_mem _ he)) with e' | h1
      · exact absurd (by rw [e']) (hnx e he)
      · exact h1
    · intro he
      rcases List.mem_cons.1 ((h e).2 (List.mem_cons_of_mem _ he)) with e' | h1
      · exact absurd (by rw [e']) (hny e he)
      · exact h1
theorem lookE_ext {a b : List Ent} (ha : Rising Ent.key a) (hb : Rising Ent.key b) (h : ∀ k, lookE a k = lookE b k) : a = b :=
  risingE_unique a b ha hb fun e => ⟨fun he => by have := lookE_mem ha e he; rw [h] at this; exact mem_lookE this, fun he => by have := lookE_mem hb e he; rw [← h] at this; exact mem_lookE this⟩

/-! ### the three things that an update may do -/
theorem insE_mem {l : List Ent} {i : Nat} {u x : Ent} : x ∈ insE l i u ↔ x = u ∨ x ∈ l := by
  unfold insE
  rw [List.mem_append, List.mem_cons]
  have : x ∈ l ↔ x ∈ l.take i ∨ x ∈ l.drop i := by rw [← List.mem_append, List.take_append_drop]
  rw [this]
  constructor
  · rintro (h | h | h)
    · exact Or.inr (Or.inl h)
    · exact Or.inl h
    · exact Or.inr (Or.inr h)
  · rintro (h | h | h)
    · exact Or.inr (Or.inl h)
    · exact Or.inl h
    · exact Or.inr (Or.inr h)
theorem hasKeyE_not {l : List Ent} {k : List UInt8} (hno : hasKey Ent.key l k = false) : ∀ x ∈ l, x.key ≠ k := fun x hx e => by
  have : hasKey Ent.key l k = true := hasKey_iff.2 ⟨x, hx, e⟩
  rw [hno] at this; exact absurd this (by simp)
theorem insE_rising {l : List Ent} (hr : Rising Ent.key l) (u : Ent) (hno : hasKey Ent.key l u.key = false) : Rising Ent.key (insE l (below Ent.key l u.key) u) := by
  have hne := hasKeyE_not hno
  unfold insE
  have h1 : ∀ a ∈ l.take (below Ent.key l u.key), bl a.key u.key = true := by
    intro a ha
    obtain ⟨i, hi, rfl⟩ := List.getElem_of_mem ha
    rw [List.length_take] at hi
    rw [List.getElem_take]
    exact (hr.below u.key i (by omega)).2 (by omega)
  have h2 : ∀ b ∈ l.drop (below Ent.key l u.key), bl u.key b.key = true := by
    intro b hb
    obtain ⟨i, hi, rfl⟩ := List.getElem_of_mem hb
    rw [List.length_drop] at hi
    rw [List.getElem_drop]
    have hb' : ¬ bl (l[below Ent.key l u.key + i]'(by omega)).key u.key = true := by
      rw [hr.below u.key _ (by omega)]; omega
    rcases bl_not (Bool.not_eq_true _ ▸ hb' : bl (l[below Ent.key l u.key + i]'(by omega)).key u.key = false) with e | e
    · exact absurd e.symm (hne _ (List.getElem_mem _))
    · exact e
  have h3 : Rising Ent.key (l.take (below Ent.key l u.key) ++ l.drop (below Ent.key l u.key)) := by rw [List.take_append_drop]; exact hr
  have h4 := List.pairwise_append.1 h3
  refine List.pairwise_append.2 ⟨h4.1, List.pairwise_cons.2 ⟨h2, h4.2.1⟩, fun a ha b hb => ?_⟩
  rcases List.mem_cons.1 hb with rfl | hb
  · exact h1 a ha
  · exact h4.2.2 a ha b hb
theorem delE_eq (l : List Ent) (i : Nat) : delE l i = l.eraseIdx i := by rw [delE, List.eraseIdx_eq_take_drop_succ]
theorem delE_sub (l : List Ent) (i : Nat) : (delE l i).Sublist l := by rw [delE_eq]; exact List.eraseIdx_sublist l i
theorem delE_rising {l : List Ent} (hr : Rising Ent.key l) (i : Nat) : Rising Ent.key (delE l i) := List.Pairwise.sublist (delE_sub l i) hr
theorem setE_rising {l : List Ent} (hr : Rising Ent.key l) (i : Nat) (hi : i < l.length) (y : List UInt8) : Rising Ent.key (l.set i ⟨l[i].key, y⟩) := by
  have e : ∀ m : List Ent, Rising Ent.key m ↔ (m.map Ent.key).Pairwise (fun a b => bl a b = true) := fun m => by unfold Rising; rw [List.pairwise_map]
  rw [e, List.map_set]
  have : (l.map Ent.key).set i l[i].key = l.map Ent.key := by
    apply List.ext_getElem (by simp)
    intro j h1 h2
    rw [List.getElem_set]
    split
    · rename_i e; subst e; simp
    · rfl
  rw [this, ← e]
  exact hr

/-- The lookup in a list by rising keys, by its members. -/
theorem lookE_iff {l : List Ent} (hr : Rising Ent.key l) (k v : List UInt8) : lookE l k = some v ↔ (⟨k, v⟩ : Ent) ∈ l := ⟨mem_lookE, fun h => lookE_mem hr _ h⟩
theorem lookE_by {l : List Ent} (hr : Rising Ent.key l) (k : List UInt8) (o : Option (List UInt8)) (h : ∀ v, (⟨k, v⟩ : Ent) ∈ l ↔ o = some v) : lookE l k = o := by
  cases hl : lookE l k with
  | some v => exact ((h v).1 ((lookE_iff hr k v).1 hl)).symm
  | none =>
    cases o with
    | none => rfl
    | some v => rw [(lookE_iff hr k v).2 ((h v).2 rfl)] at hl; exact hl.symm
theorem mem_delE {l : List Ent} (hr : Rising Ent.key l) (i : Nat) (hi : i < l.length) (e : Ent) : e ∈ delE l i ↔ e ∈ l ∧ e.key ≠ l[i].key := by
  constructor
  · intro h
    refine ⟨(delE_sub l i).subset h, fun hk => ?_⟩
    unfold delE at h
    rcases List.mem_append.1 h with h | h
    · obtain ⟨j, hj, rfl⟩ := List.getElem_of_mem h
      rw [List.length_take] at hj
      rw [List.getElem_take] at hk
      exact bl_ne (hr.lt (show j < i by omega) hi) hk
    · obtain ⟨j, hj, rfl⟩ := List.getElem_of_mem h
      rw [List.length_drop] at hj
      rw [List.getElem_drop] at hk
      exact bl_ne (hr.lt (show i < i + 1 + j by omega) (by omega)) hk.symm
  · rintro ⟨h, hk⟩
    obtain ⟨j, hj, rfl⟩ := List.getElem_of_mem h
    unfold delE
    rw [List.mem_append]
    have hji : j ≠ i := fun e => hk (by subst e; rfl)
    rcases Nat.lt_or_ge j i with h1 | h1
    · exact Or.inl (List.mem_take_iff_getElem.2 ⟨j, by omega, rfl⟩)
    · exact Or.inr (List.mem_drop_iff_getElem.2 ⟨j - (i + 1), by omega, by congr 1; omega⟩)
theorem mem_setE {l : List Ent} (hr : Rising Ent.key l) (i : Nat) (hi : i < l.length) (y : List UInt8) (e : Ent) : e ∈ l.set i ⟨l[i].key, y⟩ ↔ e = ⟨l[i].key, y⟩ ∨ (e ∈ l ∧ e.key ≠ l[i].key) := by
  rw [List.mem_iff_getElem]
  constructor
  · rintro ⟨j, hj, he⟩
    rw [List.length_set] at hj
    rw [List.getElem_set] at he
    split at he
    · exact Or.inl he.symm
    · rename_i hij
      refine Or.inr ⟨he ▸ List.getElem_mem hj, fun hk => ?_⟩
      rw [← he] at hk
      rcases Nat.lt_or_gt_of_ne hij with h1 | h1
      · exact bl_ne (hr.lt h1 hj) hk.symm
      · exact bl_ne (hr.lt h1 hi) hk
  · rintro (rfl | ⟨h, hk⟩)
    · exact ⟨i, by rw [List.length_set]; exact hi, by simp⟩
    · obtain ⟨j, hj, rfl⟩ := List.getElem_of_mem h
      refine ⟨j, by rw [List.length_set]; exact hj, ?_⟩
      rw [List.getElem_set, if_neg (fun e => hk (by subst e; rfl))]

/-! ### an update -/
theorem onE_cases (l : List Ent) (u : Upd) (hr : Rising Ent.key l) :
    (onE l u = l ∧ actE u (lookE l u.key) = lookE l u.key) ∨
    (hasKey Ent.key l u.key = false ∧ ∃ y, actE u (lookE l u.key) = some y ∧ onL [] false u = (y, true) ∧ u.check = 0 ∧ onE l u = insE l (below Ent.key l u.key) ⟨u.key, y⟩) ∨
    (∃ (i : Nat) (hi : i < l.length), l[i].key = u.key ∧ ∃ y, actE u (lookE l u.key) = some y ∧ onL l[i].val true u = (y, true) ∧ u.check = 0 ∧ onE l u = l.set i ⟨l[i].key, y⟩) ∨
    (∃ (i : Nat) (hi : i < l.length), l[i].key = u.key ∧ actE u (lookE l u.key) = none ∧ onE l u = delE l i) := by
  by_cases hc : u.check = 0
  · have hc' : ¬ u.check ≠ 0 := by simp [hc]
    unfold onE newE actE
    rw [if_neg hc', if_neg hc']
    cases hh : hasKey Ent.key l u.key with
    | false =>
      rw [lookE_none hh]
      cases hy : onL [] false u with
      | mk y is => cases is <;> simp [hc]
    | true =>
      obtain ⟨hlt, hkey⟩ := (hr.found u.key).1 hh
      have ho : oldE l u.key = (l[below Ent.key l u.key]'hlt).val := by unfold oldE; rw [List.getElem?_eq_getElem hlt]; rfl
      have hl := lookE_at hr _ hlt
      rw [hkey] at hl
      rw [hl, ho]
      generalize below Ent.key l u.key = i at *
      cases hy : onL (l[i]'hlt).val true u with
      | mk y is =>
        cases is with
        | true => exact Or.inr (Or.inr (Or.inl ⟨i, hlt, hkey, y, by simp [hy], hy, hc, by simp [hkey]⟩))
        | false => exact Or.inr (Or.inr (Or.inr ⟨i, hlt, hkey, by simp [hy], by simp⟩))
  · left
    unfold onE actE
    rw [if_pos hc, if_pos hc]
    exact ⟨rfl, rfl⟩
theorem onE_rising {l : List Ent} (hr : Rising Ent.key l) (u : Upd) : Rising Ent.key (onE l u) := by
  rcases onE_cases l u hr with ⟨e, -⟩ | ⟨hno, y, -, -, -, e⟩ | ⟨i, hi, -, y, -, -, -, e⟩ | ⟨i, hi, -, -, e⟩
  · rw [e]; exact hr
  · rw [e]; exact insE_rising hr ⟨u.key, y⟩ hno
  · rw [e]; exact setE_rising hr i hi y
  · rw [e]; exact delE_rising hr i
theorem onE_len {l : List Ent} (hr : Rising Ent.key l) (u : Upd) : (onE l u).length ≤ l.length + 1 := by
  rcases onE_cases l u hr with ⟨e, -⟩ | ⟨hno, y, -, -, -, e⟩ | ⟨i, hi, -, y, -, -, -, e⟩ | ⟨i, hi, -, -, e⟩
  · rw [e]; omega
  · rw [e, insE_len _ _ _ (below_le _ _)]; omega
  · rw [e, List.length_set]; omega
  · rw [e, delE_len _ _ hi]; omega
/-- Entries whose values aren't too long. -/
def FineE (l : List Ent) : Prop := ∀ e ∈ l, 1 ≤ e.key.length ∧ e.key.length ≤ 16 ∧ e.val.length ≤ 32
theorem onE_fine {l : List Ent} (hr : Rising Ent.key l) (hf : FineE l) (u : Upd) : FineE (onE l u) := by
  rcases onE_cases l u hr with ⟨e, -⟩ | ⟨hno, y, -, hy, hc, e⟩ | ⟨i, hi, hk, y, -, hy, hc, e⟩ | ⟨i, hi, -, -, e⟩
  · rw [e]; exact hf
  · rw [e]
    intro x hx
    obtain ⟨c1, c2, c3, -⟩ := Upd.check_ok hc
    rcases insE_mem.1 hx with rfl | hx
    · have := onL_len [] false u 32 (by simp) c3 (by decide)
      rw [hy] at this
      exact ⟨c1, c2, this⟩
    · exact hf x hx
  · rw [e]
    intro x hx
    obtain ⟨c1, c2, c3, -⟩ := Upd.check_ok hc
    rcases (mem_setE hr i hi y x).1 hx with rfl | ⟨hx, -⟩
    · have h0 := hf _ (List.getElem_mem hi)
      have := onL_len l[i].val true u 32 h0.2.2 c3 (by decide)
      rw [hy] at this
      exact ⟨h0.1, h0.2.1, this⟩
    · exact hf x hx
  · rw [e]
    exact fun x hx => hf x ((delE_sub l i).subset hx)
theorem onE_look {l : List Ent} (hr : Rising Ent.key l) (u : Upd) (k : List UInt8) : lookE (onE l u) k = if k = u.key then actE u (lookE l k) else lookE l k := by
  have hr' := onE_rising hr u
  by_cases hk : k = u.key
  · subst hk
    rw [if_pos rfl]
    rcases onE_cases l u hr with ⟨e, h⟩ | ⟨hno, y, h, -, -, e⟩ | ⟨i, hi, hki, y, h, -, -, e⟩ | ⟨i, hi, hki, h, e⟩
    · rw [e, h]
    · rw [h]
      exact (lookE_iff hr' _ _).2 (by rw [e]; exact insE_mem.2 (Or.inl rfl))
    · rw [h]
      exact (lookE_iff hr' _ _).2 (by rw [e]; exact (mem_setE hr i hi y _).2 (Or.inl (by rw [hki])))
    · rw [h]
      refine lookE_by hr' _ _ fun v => ⟨fun hm => ?_, fun hm => by cases hm⟩
      rw [e] at hm
      exact absurd hki.symm ((mem_delE hr i hi _).1 hm).2
  · rw [if_neg hk]
    refine lookE_by hr' _ _ fun v => ?_
    rw [lookE_iff hr]
    rcases onE_cases l u hr with ⟨e, h⟩ | ⟨hno, y, h, -, -, e⟩ | ⟨i, hi, hki, y, h, -, -, e⟩ | ⟨i, hi, hki, h, e⟩
    · rw [e]
    · rw [e, insE_mem]
      exact ⟨fun h => h.resolve_left (fun e' => hk (congrArg Ent.key e')), Or.inr⟩
    · rw [e, mem_setE hr i hi, hki]
      exact ⟨fun h => (h.resolve_left (fun e' => hk (congrArg Ent.key e'))).1, fun h => Or.inr ⟨h, hk⟩⟩
    · rw [e, mem_delE hr i hi, hki]
      exact ⟨fun h => h.1, fun h => ⟨h, hk⟩⟩

/-- One behind the other. -/
def onAll (l : List Ent) (us : List Upd) : List Ent := us.foldl onE l
theorem onAll_snoc (l : List Ent) (us : List Upd) (u : Upd) : onAll l (us ++ [u]) = onE (onAll l us) u := by simp [onAll]
theorem onAll_ok (l : List Ent) (hr : Rising Ent.key l) (hf : FineE l) : ∀ us : List Upd, Rising Ent.key (onAll l us) ∧ FineE (onAll l us) ∧ (onAll l us).length ≤ l.length + us.length := by
  intro us
  induction us using snoc_ind with
  | h0 => exact ⟨hr, hf, by simp [onAll]⟩
  | h1 us u ih =>
    obtain ⟨h1, h2, h3⟩ := ih
    rw [onAll_snoc]
    refine ⟨onE_rising h1 u, onE_fine h1 h2 u, ?_⟩
    have := onE_len h1 u
    simp only [List.length_append, List.length_singleton]
    omega
/-- Updates of unlike keys: each key by its own, if there is one. -/
theorem onAll_look (l : List Ent) (hr : Rising Ent.key l) (hf : FineE l) : ∀ us : List Upd, (us.map Upd.key).Nodup → ∀ k, lookE (onAll l us) k = match us.find? (fun u => u.key == k) with | some u => actE u (lookE l k) | none => lookE l k := by
  intro us
  induction us using snoc_ind with
  | h0 => intro _ k; rfl
  | h1 us u ih =>
    intro hn k
    rw [List.map_append, List.nodup_append] at hn
    have h := ih hn.1 k
    rw [onAll_snoc, onE_look (onAll_ok l hr hf us).1, h, List.find?_append]
    by_cases hk : k = u.key
    · subst hk
      rw [if_pos rfl]
      have : us.find? (fun v => v.key == u.key) = none := by
        rw [List.find?_eq_none]
        intro v hv e
        exact hn.2.2 v.key (List.mem_map.2 ⟨v, hv, rfl⟩) u.key (by simp) (by simpa using e)
      rw [this]
      simp
    · rw [if_neg hk]
      cases hu : us.find? (fun v => v.key == k) with
      | some v => simp
      | none =>
        have : (u.key == k) = false := by simpa using fun e => hk e.symm
        simp [this]
/-- .. in whatever order. -/
theorem onAll_perm (l : List Ent) (hr : Rising Ent.key l) (hf : FineE l) (us vs : List Upd) (hn : (us.map Upd.key).Nodup) (hp : vs.Perm us) : onAll l vs = onAll l us := by
  have hn' : (vs.map Upd.key).Nodup := (hp.map Upd.key).nodup_iff.2 hn
  refine lookE_ext (onAll_ok l hr hf vs).1 (onAll_ok l hr hf us).1 fun k => ?_
  rw [onAll_look l hr hf vs hn', onAll_look l hr hf us hn]
  have hfind : vs.find? (fun u => u.key == k) = us.find? (fun u => u.key == k) := by
    have key : ∀ (ws : List Upd), (ws.map Upd.key).Nodup → ∀ u, ws.find? (fun u => u.key == k) = some u ↔ u ∈ ws ∧ u.key = k := by
      intro ws hw u
      constructor
      · intro h
        exact ⟨List.mem_of_find?_eq_some h, by simpa using List.find?_some h⟩
      · rintro ⟨h1, h2⟩
        obtain ⟨i, hi, rfl⟩ := List.getElem_of_mem h1
        refine List.find?_eq_some_iff_getElem.2 ⟨by simpa using h2, i, hi, rfl, fun j hj => ?_⟩
        have hne := (List.pairwise_iff_getElem.1 hw) j i (by simp; omega) (by simpa using hi) hj
        simp only [List.getElem_map] at hne
        rw [h2] at hne
        simpa using hne
    cases hv : vs.find? (fun u => u.key == k) with
    | some u =>
      have := (key vs hn' u).1 hv
      exact ((key us hn u).2 ⟨hp.mem_iff.1 this.1, this.2⟩).symm
    | none =>
      cases hu : us.find? (fun u => u.key == k) with
      | none => rfl
      | some u =>
        have := (key us hn u).1 hu
        rw [(key vs hn' u).2 ⟨hp.mem_iff.2 this.1, this.2⟩] at hv
        exact hv.symm
  rw [hfind]

end Go.Proofs.Ytlmlmkeomlehmaa

namespace Go.Proofs.Ytlmlmkeomlehmaa
open Go.RowKit
attribute [local go_sem ↓] Go.wp_at_zero Go.wp_at_succ

set_option maxRecDepth 100000 in
set_option maxHeartbeats 4000000 in
theorem leafOn_any (v : Value) (l : List Ent) (s : Value) (us : List Upd) (w : World) (hv : BoxE w v l) (hl : l.length ≤ 10000) (hr : Rising Ent.key l) (hf : FineE l) (hs : SlU w s us) (hu : ∀ u ∈ us, u.Wf) (hul : us.length ≤ 10000) :
    Calls Try.prog 47 #[v, s] w fun e w' => (∃ a c, e = .returned (.agg #[.slice a (onAll l us).length c]) ∧ BoxE w' (.agg #[.slice a (onAll l us).length c]) (onAll l us)) ∧ Below w.heap.size w w' := by
  obtain ⟨s0, rfl, hs0⟩ := hv
  have HL := Lib.hid (fun w (h : SlE w s0 l) => listE (.agg #[s0]) l w ⟨s0, rfl, h⟩ (by omega))
  have HS0 := Lib.hid hs0
  have HS := Lib.hid hs
  obtain ⟨ua, uc, rfl, -, hc1, hc2, hcn⟩ := hs
  obtain ⟨sa, sc, rfl, -, hd1, hd2, hdn⟩ := hs0
  clear hcn hdn
  go_enter Try.func47, Try.ntmps47
  go_wp2_with fail
  refine (thread (HL.out _ (HS0.out.kept (by go_grown) (Nat.le_refl _))) w.heap.size w (by go_grown) (by go_grown)).mono ?_
  rintro e w1 ⟨⟨v', rfl, hown⟩, hB1, hk1, hf1, hs1, hz1⟩
  obtain ⟨a1, c1, e1⟩ := own_form hown
  subst e1
  have hs1' : w.heap.size + 1 < w1.heap.size := by simp at hs1; omega
  have hown := own_base (B' := w.heap.size + 2) hown (by simp)
  have hL0 : LeafAt (w.heap.size + 2) w1.heap.size l (w1.alloc (.cells #[.slice a1 l.length c1] 108)) := ⟨⟨a1, c1, by simp, hown.alloc _, fun e => by have := (hown.lt _ e).2; omega⟩, by simp, by simp, by omega⟩
  have r5 : w1.cell? ⟨w.heap.size + 1, 0, none⟩ = some (.slice none 0 0) := (hk1 (w.heap.size + 1) 0 (by simp)).trans (by simp)
  have r6 : w1.frozen? ⟨w.heap.size + 1, 0, none⟩ = false := (hf1 (w.heap.size + 1) 0 (by simp)).trans (by simp)
  have HB1 := Lib.hid hB1
  clear hk1 hf1 hs1 hown hB1
  go_wp2_with fail
  go_loopw [13] (fun i wr => ∃ k : Nat, i = .int .i64 k ∧ k ≤ us.length ∧ LeafAt (w.heap.size + 2) w1.heap.size (onAll l (us.take k)) wr ∧ Below (w.heap.size + 2) w1 wr) (fun i _ => us.length - (intOf i).toNat)
  case atStart => exact ⟨0, rfl, Nat.zero_le _, hL0, by go_grown⟩
  case round =>
    obtain ⟨k, rfl, hk, hL, hB⟩ := hrel
    have hk0 : (0 : Int) ≤ (k : Int) := Int.natCast_nonneg _
    obtain ⟨o1, o2, o3⟩ := onAll_ok l hr hf (us.take k)
    have hlen := Lib.hid (show (onAll l (us.take k)).length ≤ 100000 by rw [List.length_take] at o3; omega)
    clear o3
    by_cases hku : k < us.length
    · have hk1 : (k : Int) < (us.length : Int) := by omega
      obtain ⟨b, off, rfl, hb, t0, t1, t2, t3⟩ := SlU.cells4 (HS.out.kept (HB1.out.trans (hB.mono (by omega))) (Nat.le_refl _)) k hku
      have hsn := Lib.hid (List.take_succ_eq_append_getElem hku)
      obtain ⟨hw1, hw2⟩ := hu _ (List.getElem_mem hku)
      generalize us[k] = u at *
      have hon := Lib.hid (leaf_on (w.heap.size + 2) w1.heap.size _ u.kind u.key u.val u.delta (wr.alloc (.cells #[.int .u8 u.kind, .string (S u.key), .string (S u.val), .int .u64 u.delta] 67)) (hL.on (by go_grown)) hlen.out o1 (fun e he => by have := (o2 e he).2.2; omega) hw1 hw2)
      have hz := hL.le
      clear hL
      go_wp2_with fail
      refine (hon.out).mono ?_
      rintro e w2 ⟨rfl, hL2, hB2⟩
      have hB3 := hB.trans ((Below.refl _ _).alloc hz _ |>.trans hB2)
      go_wp2_with fail
      go_roundw
      (case rel => exact (⟨k + 1, by go_num, by omega, by rw [hsn.out, onAll_snoc]; exact hL2, hB3⟩))
      (case measure => first | (simp [intOf]; done) | (simp [intOf]; omega))
    · obtain rfl : k = us.length := by omega
      rw [List.take_length] at hL
      obtain ⟨⟨a, c, h1, h2, h3⟩, h4, h5, h6⟩ := hL
      have r7 := (cell_below hB (show w.heap.size + 1 < w.heap.size + 2 by omega) 0).trans r5
      have r8 : wr.frozen? ⟨w.heap.size + 1, 0, none⟩ = false := (World.frozen?_of_block (hB.block (w.heap.size + 1) (by omega))).trans r6
      have hne : (Value.slice a (onAll l us).length c).ownBlock ≠ some (w.heap.size + 1) := fun e => by have := (h2.lt _ e).1; omega
      have hbox := fun u => BoxE.of_own (ownsRow_setCell_other (a := ⟨w.heap.size + 1, 0, none⟩) h2 hne u)
      have hlow := (HB1.out.trans (hB.mono (by omega))).setCell (p := ⟨w.heap.size + 1, 0, none⟩) (by show w.heap.size ≤ w.heap.size + 1; omega) (.slice a (onAll l us).length c)
      have Hbox := Lib.hid hbox
      have Hlow := Lib.hid hlow
      clear hbox hlow h2 h3 h4 hlen o1 o2
      go_wp2_with fail
      exact bodyPost_ret (v := .agg #[.slice a (onAll l us).length c]) (by simp [results, Try.results47, go_sem, r7]) rfl ⟨⟨a, c, rfl, Hbox.out _⟩, Hlow.out⟩

end Go.Proofs.Ytlmlmkeomlehmaa

namespace Go.Proofs.Ytlmlmkeomlehmaa
open Go.RowKit

theorem entText_step {l : List Ent} {i : Nat} (hi : i < l.length) : entText (l.take (i + 1)) = entText (l.take i) ++ (l[i]).bytes := by
  rw [List.take_succ_eq_append_getElem hi]; simp only [entText, List.flatMap_append, List.flatMap_cons, List.flatMap_nil, List.append_nil]

end Go.Proofs.Ytlmlmkeomlehmaa

namespace Go.Proofs.Ytlmlmkeomlehmaa
open Go.RowKit

def valV : Option (List UInt8) → Value
  | none => .tuple #[.string (S []), .bool false]
  | some v => .tuple #[.string (S v), .bool true]

theorem SlAt.cells2 {w : World} {ao : Option Addr} {l : List Ent} (hs : SlAt Ent.cells 2 w ao l) (i : Nat) (hi : i < l.length) :
    ∃ b off, ao = some ⟨b, off, none⟩ ∧ b < w.heap.size ∧ w.cell? ⟨b, off + i * 2, none⟩ = some (.string (S l[i].key)) ∧ w.cell? ⟨b, off + i * 2 + 1, none⟩ = some (.string (S l[i].val)) := by
  obtain ⟨b, off, rfl, hb, hc⟩ := hs.at (by omega)
  obtain ⟨h0, h1⟩ := entCells hc i hi
  exact ⟨b, off, rfl, hb, h0, h1⟩

end Go.Proofs.Ytlmlmkeomlehmaa

namespace Go.Proofs.Ytlmlmkeomlehmaa
open Go.RowKit

end Go.Proofs.Ytlmlmkeomlehmaa

namespace Go.Proofs.Ytlmlmkeomlehmaa
open Go.RowKit

end Go.Proofs.Ytlmlmkeomlehmaa

namespace Go.Proofs.Ytlmlmkeomlehmaa
open Go.RowKit
attribute [local go_sem ↓] Go.wp_at_zero Go.wp_at_succ

theorem entBytes (u : Ent) : Ent.bytes u = joinT u.key ++ joinT u.val := by simp [Ent.bytes, joinT]

theorem entText_len : ∀ l : List Ent, FineE l → (entText l).length ≤ 50 * l.length
  | [], _ => by simp [entText]
  | e :: l, h => by
    have h1 := entText_len l (fun x hx => h x (List.mem_cons_of_mem _ hx))
    obtain ⟨-, h2, h3⟩ := h e (by simp)
    have h4 : entText (e :: l) = Ent.bytes e ++ entText l := rfl
    rw [h4, entBytes, List.length_append, List.length_append, joinT_len, joinT_len, List.length_cons]
    omega
set_option maxRecDepth 100000 in
set_option maxHeartbeats 4000000 in
theorem leafText_any (a : Option Addr) (n c : Nat) (l : List Ent) (w : World) (hn : n = l.length) (hv : BoxE w (.agg #[.slice a n c]) l) (hl : l.length ≤ 10000) (hf : FineE l) :
    Calls Try.prog 48 #[.agg #[.slice a n c]] w fun e w' => e = .returned (.tuple #[.string (S (entText l)), .int .i64 0]) ∧ Below w.heap.size w w' := by
  obtain ⟨s0, e0, hs0⟩ := hv
  simp only [Value.agg.injEq, Array.mk.injEq, List.cons.injEq, and_true] at e0
  subst e0
  obtain ⟨a', c', e1, hs, -, -, -⟩ := hs0
  simp only [Value.slice.injEq] at e1
  obtain ⟨rfl, -, rfl⟩ := e1
  have HN := Lib.hid hn
  clear hn
  go_enter Try.func48, Try.ntmps48
  go_wp2_with fail
  go_loopw [14] (fun i wr => ∃ j : Nat, i = .int .i64 j ∧ j ≤ n ∧ IsB (w.heap.size + 1) (w.heap.size + 1) (Lib.byteCells (entText (l.take j))) wr ∧ Below w.heap.size w wr ∧ w.heap.size + 1 < wr.heap.size) (fun i _ => n - (intOf i).toNat)
  case atStart => exact ⟨0, rfl, Nat.zero_le _, by simpa [entText, Lib.byteCells] using Lib.fresh_isBuilder 116 5 (w.alloc (.cells #[.slice a n c] 108)), by go_grown, by simp⟩
  case round =>
    obtain ⟨j, rfl, hj, hI, hB, hz⟩ := hrel
    have hj0 : (0 : Int) ≤ (j : Int) := Int.natCast_nonneg _
    have HI := Lib.hid hI
    clear hI
    by_cases hjn : j < n
    · have hj1 : (j : Int) < (n : Int) := by omega
      have hjl : j < l.length := by have := HN.out; omega
      obtain ⟨b, off, rfl, hb, t0, t1⟩ := SlAt.cells2 hs j hjl
      have q0 := (cell_below hB hb _).trans t0
      have q1 := (cell_below hB hb _).trans t1
      obtain ⟨f1, f2, f3⟩ := hf _ (List.getElem_mem hjl)
      have hst := Lib.hid (entText_step hjl)
      clear t0 t1
      generalize l[j] = u at *
      have hjk := fun w => lendJoin_any u.key (by omega) w
      have hjv := fun w => lendJoin_any u.val (by omega) w
      have HJ := Lib.hid hjk
      have HJV := Lib.hid hjv
      clear hjk hjv
      go_wp2_with fail
      refine (thread (HJ.out _) wr.heap.size wr (by go_grown) (by go_grown)).mono ?_
      rintro e w1 ⟨rfl, hX1, hk1, -, -, hz1⟩
      have e1 : w1.cell? ⟨wr.heap.size, 1, none⟩ = some (.string (S u.val)) := (hk1 wr.heap.size 1 (by simp)).trans (by simp)
      clear hk1
      go_wp2_with fail
      refine (thread (HJV.out _) wr.heap.size wr hX1 hz1).mono ?_
      rintro e w2 ⟨rfl, hX2, -, -, -, hz2⟩
      have HI2 := Lib.hid (HI.out.on hX2)
      have hB2 := hB.trans (hX2.mono hB.size)
      have hk2 := joinT_len u.key
      have hv2 := joinT_len u.val
      have hlen : ¬ 9223372036854775807 < (joinT u.key).length + (joinT u.val).length := by omega
      have htl := entText_len (l.take j) (fun x hx => hf x (List.mem_of_mem_take hx))
      rw [List.length_take] at htl
      have HW := Lib.hid (bld_write (w.heap.size + 1) (w.heap.size + 1) _ (S (joinT u.key ++ joinT u.val)) w2 HI2.out (by rw [Lib.byteCells_length, S_size, List.length_append]; omega) (by have := hB2.size; omega))
      clear HI HJ HJV hX1 hX2 e1 hk2 hv2 htl
      go_wp2_with fail
      refine (HW.out).mono ?_
      rintro e w3 ⟨rfl, hI3, hX3⟩
      rw [strCells_S, ← byteCells_app, ← entBytes, ← hst.out] at hI3
      have hB3 := hB2.trans (hX3.mono (by omega))
      have hz3 : w.heap.size + 1 < w3.heap.size := by have := hX3.size; omega
      clear HW
      go_wp2_with fail
      go_roundw
      (case rel => exact (⟨j + 1, by go_num, by omega, hI3, hB3, hz3⟩))
      (case measure => first | (simp [intOf]; done) | (simp [intOf]; omega))
    · obtain rfl : j = n := by omega
      have hta : l.take j = l := by rw [HN.out, List.take_length]
      rw [hta] at HI
      clear hta
      go_wp2_with fail
      refine (bld_string (w.heap.size + 1) (w.heap.size + 1) (entText l) wr HI.out (by omega)).mono ?_
      rintro e w1 ⟨rfl, hX1⟩
      go_wp2_with fail
      go_ret2
      exact ⟨rfl, hB.trans (hX1.mono (by omega))⟩

end Go.Proofs.Ytlmlmkeomlehmaa

namespace Go.Proofs.Ytlmlmkeomlehmaa.PlanL

/-- May a plan be? -/
def right (F B L : Int) : Bool := decide (3 ≤ F ∧ F ≤ 16 ∧ F ≤ B ∧ B ≤ 64 ∧ 2 ≤ L ∧ L ≤ 64)
/-- May a size be? -/
def sized (n : Int) : Bool := decide (128 ≤ n ∧ n ≤ 1024)
/-- The room of a size's block. -/
def room (n : Int) : Int := if 128 ≤ n ∧ n ≤ 1024 then n - 24 else 0
def nodeBytes (F B L : Int) : Int := if right F B L = true then 1 + 33 * F + 51 * B else 0
def leafBytes (F B L : Int) : Int := if right F B L = true then 50 * L else 0
def least (F B L : Int) : Int := if right F B L = true then B / F else 0
/-- The answer of a plan's check. -/
def check (F B L n : Int) : Int :=
  if right F B L = false ∨ n < 128 ∨ 1024 < n then 2
  else if n - 24 < 1 + 33 * F + 51 * B ∨ n - 24 < 50 * L then 20 else 0

theorem right_iff (F B L : Int) : right F B L = true ↔ (3 ≤ F ∧ F ≤ 16 ∧ F ≤ B ∧ B ≤ 64 ∧ 2 ≤ L ∧ L ≤ 64) := by simp [right]
theorem right_not (F B L : Int) : right F B L = false ↔ ¬ (3 ≤ F ∧ F ≤ 16 ∧ F ≤ B ∧ B ≤ 64 ∧ 2 ≤ L ∧ L ≤ 64) := by
  unfold right; exact decide_eq_false_iff_not

/-- The best buffer and leaf of a size and a fanout. -/
def bB (n F : Int) : Int := if 64 ≤ (n - 24 - 1 - F * 33) / 51 then 64 else (n - 24 - 1 - F * 33) / 51
def bL (n : Int) : Int := if 64 ≤ (n - 24) / 50 then 64 else (n - 24) / 50
/-- The best plan, and its error. -/
def best (n F : Int) : Int × Int × Int × Int :=
  if n < 128 ∨ 1024 < n ∨ F < 3 ∨ 16 < F then (0, 0, 0, 2)
  else if check F (bB n F) (bL n) n = 0 then (F, bB n F, bL n, 0) else (0, 0, 0, 20)

theorem check_zero (F B L n : Int) : check F B L n = 0 ↔ 3 ≤ F ∧ F ≤ 16 ∧ F ≤ B ∧ B ≤ 64 ∧ 2 ≤ L ∧ L ≤ 64 ∧ 128 ≤ n ∧ n ≤ 1024 ∧ 1 + 33 * F + 51 * B ≤ n - 24 ∧ 50 * L ≤ n - 24 := by
  unfold check
  by_cases h : right F B L = true
  · have hb := (right_iff F B L).1 h
    by_cases hn : n < 128 ∨ 1024 < n
    · rw [if_pos (by omega)]; omega
    · rw [if_neg (by rw [h]; simp; omega)]
      by_cases hk : n - 24 < 1 + 33 * F + 51 * B ∨ n - 24 < 50 * L
      · rw [if_pos hk]; omega
      · rw [if_neg hk]; omega
  · have hf : right F B L = false := by simpa using h
    have hb := (right_not F B L).1 hf
    rw [if_pos (Or.inl hf)]; omega
theorem check_cases (F B L n : Int) : check F B L n = 0 ∨ check F B L n = 2 ∨ check F B L n = 20 := by
  unfold check; split
  · simp
  · split <;> simp
/-- What has more has no room. -/
theorem best_more (n F b l : Int) (h : check F b l n = 0) : b ≤ bB n F ∧ l ≤ bL n := by
  rw [check_zero] at h
  unfold bB bL
  constructor <;> split <;> omega
theorem best_some (n F b l : Int) (h : check F b l n = 0) : check F (bB n F) (bL n) n = 0 := by
  rw [check_zero] at h ⊢
  unfold bB bL
  refine ⟨by omega, by omega, ?_, ?_, ?_, ?_, by omega, by omega, ?_, ?_⟩ <;> split <;> omega

end Go.Proofs.Ytlmlmkeomlehmaa.PlanL

namespace Go.Proofs.Ytlmlmkeomlehmaa
open Go.RowKit

set_option maxHeartbeats 400000 in
theorem sized_any (n : Int) (w : World) :
    Calls Try.prog 85 #[.int .i64 n] w fun e w' => e = .returned (.bool (PlanL.sized n)) ∧ w = w' := by
  by_cases h1 : 128 ≤ n
  · by_cases h2 : n ≤ 1024
    · have hs : PlanL.sized n = true := by simp [PlanL.sized, h1, h2]
      rw [hs]; clear hs
      go_enter Try.func85, Try.ntmps85
      go_wp2
      go_ret
      exact ⟨rfl, rfl⟩
    · have hs : PlanL.sized n = false := by simp [PlanL.sized, h1, h2]
      rw [hs]; clear hs
      go_enter Try.func85, Try.ntmps85
      go_wp2
      go_ret
      exact ⟨rfl, rfl⟩
  · have hs : PlanL.sized n = false := by simp [PlanL.sized, h1]
    rw [hs]; clear hs
    go_enter Try.func85, Try.ntmps85
    go_wp2
    go_ret
    exact ⟨rfl, rfl⟩


set_option maxHeartbeats 400000 in
theorem room_any (n : Int) (w : World) :
    Calls Try.prog 49 #[.int .i64 n] w fun e w' => e = .returned (.int .i64 (PlanL.room n)) ∧ w = w' := by
  by_cases h : 128 ≤ n ∧ n ≤ 1024
  · have hs : PlanL.sized n = true := by simp [PlanL.sized, h]
    have hr : PlanL.room n = n - 24 := by simp [PlanL.room, h]
    rw [hr]; clear hr
    obtain ⟨h1, h2⟩ := h
    go_enter Try.func49, Try.ntmps49
    go_wp2_with (go_at_call 85; refine (sized_any _ _).mono ?_; rintro e w' ⟨rfl, rfl⟩)
    go_ret
    exact ⟨rfl, rfl⟩
  · have hs : PlanL.sized n = false := by simp [PlanL.sized]; omega
    have hr : PlanL.room n = 0 := by simp [PlanL.room]; omega
    rw [hr]; clear hr h
    go_enter Try.func49, Try.ntmps49
    go_wp2_with (go_at_call 85; refine (sized_any _ _).mono ?_; rintro e w' ⟨rfl, rfl⟩)
    go_ret
    exact ⟨rfl, rfl⟩

set_option maxHeartbeats 400000 in
theorem planRight_any (F B L : Int) (w : World) :
    Calls Try.prog 86 #[.agg #[.int .i64 F, .int .i64 B, .int .i64 L]] w fun e w' => e = .returned (.bool (PlanL.right F B L)) ∧ Below w.heap.size w w' := by
  go_enter Try.func86, Try.ntmps86
  go_wp2
  all_goals (go_ret; exact ⟨ret_bool (by first | exact ((PlanL.right_iff F B L).2 (by omega)).symm | exact ((PlanL.right_not F B L).2 (by omega)).symm | (by_cases h : L ≤ 64 <;> simp [PlanL.right, h] <;> omega)), by go_grown⟩)

set_option maxHeartbeats 400000 in
theorem nodeBytes_any (F B L : Int) (w : World) :
    Calls Try.prog 50 #[.agg #[.int .i64 F, .int .i64 B, .int .i64 L]] w fun e w' => e = .returned (.int .i64 (PlanL.nodeBytes F B L)) ∧ Below w.heap.size w w' := by
  by_cases h : PlanL.right F B L = true
  · have hn : PlanL.nodeBytes F B L = 1 + 33 * F + 51 * B := by rw [PlanL.nodeBytes, if_pos h]
    rw [hn]; clear hn
    obtain ⟨h1, h2, h3, h4, h5, h6⟩ := (PlanL.right_iff F B L).1 h
    go_enter Try.func50, Try.ntmps50
    go_wp2_with (go_at_call 86; refine (thread (planRight_any _ _ _ _) w.heap.size w (by go_grown) (by go_grown)).mono ?_; rintro e w1 ⟨rfl, hB1, hc1, hf1, hs1, hz1⟩)
    go_ret
    exact ⟨ret_int (by omega), by go_grown⟩
  · have hr : PlanL.right F B L = false := by simpa using h
    have hn : PlanL.nodeBytes F B L = 0 := by rw [PlanL.nodeBytes, if_neg h]
    rw [hn]; clear hn h
    go_enter Try.func50, Try.ntmps50
    go_wp2_with (go_at_call 86; refine (thread (planRight_any _ _ _ _) w.heap.size w (by go_grown) (by go_grown)).mono ?_; rintro e w1 ⟨rfl, hB1, hc1, hf1, hs1, hz1⟩)
    go_ret
    exact ⟨ret_int (by first | rfl | omega), by go_grown⟩

set_option maxHeartbeats 400000 in
theorem leafBytes_any (F B L : Int) (w : World) :
    Calls Try.prog 51 #[.agg #[.int .i64 F, .int .i64 B, .int .i64 L]] w fun e w' => e = .returned (.int .i64 (PlanL.leafBytes F B L)) ∧ Below w.heap.size w w' := by
  by_cases h : PlanL.right F B L = true
  · have hn : PlanL.leafBytes F B L = 50 * L := by rw [PlanL.leafBytes, if_pos h]
    rw [hn]; clear hn
    obtain ⟨h1, h2, h3, h4, h5, h6⟩ := (PlanL.right_iff F B L).1 h
    go_enter Try.func51, Try.ntmps51
    go_wp2_with (go_at_call 86; refine (thread (planRight_any _ _ _ _) w.heap.size w (by go_grown) (by go_grown)).mono ?_; rintro e w1 ⟨rfl, hB1, hc1, hf1, hs1, hz1⟩)
    go_ret
    exact ⟨ret_int (by omega), by go_grown⟩
  · have hr : PlanL.right F B L = false := by simpa using h
    have hn : PlanL.leafBytes F B L = 0 := by rw [PlanL.leafBytes, if_neg h]
    rw [hn]; clear hn h
    go_enter Try.func51, Try.ntmps51
    go_wp2_with (go_at_call 86; refine (thread (planRight_any _ _ _ _) w.heap.size w (by go_grown) (by go_grown)).mono ?_; rintro e w1 ⟨rfl, hB1, hc1, hf1, hs1, hz1⟩)
    go_ret
    exact ⟨ret_int (by first | rfl | omega), by go_grown⟩

set_option maxHeartbeats 400000 in
theorem least_any (F B L : Int) (w : World) :
    Calls Try.prog 77 #[.agg #[.int .i64 F, .int .i64 B, .int .i64 L]] w fun e w' => e = .returned (.int .i64 (PlanL.least F B L)) ∧ Below w.heap.size w w' := by
  by_cases h : PlanL.right F B L = true
  · have hn : PlanL.least F B L = B / F := by rw [PlanL.least, if_pos h]
    rw [hn]; clear hn
    obtain ⟨h1, h2, h3, h4, h5, h6⟩ := (PlanL.right_iff F B L).1 h
    go_enter Try.func77, Try.ntmps77
    go_wp2_with (go_at_call 86; refine (thread (planRight_any _ _ _ _) w.heap.size w (by go_grown) (by go_grown)).mono ?_; rintro e w1 ⟨rfl, hB1, hc1, hf1, hs1, hz1⟩)
    go_ret
    exact ⟨ret_int (by first | rfl | omega), by go_grown⟩
  · have hr : PlanL.right F B L = false := by simpa using h
    have hn : PlanL.least F B L = 0 := by rw [PlanL.least, if_neg h]
    rw [hn]; clear hn h
    go_enter Try.func77, Try.ntmps77
    go_wp2_with (go_at_call 86; refine (thread (planRight_any _ _ _ _) w.heap.size w (by go_grown) (by go_grown)).mono ?_; rintro e w1 ⟨rfl, hB1, hc1, hf1, hs1, hz1⟩)
    go_ret
    exact ⟨ret_int (by first | rfl | omega), by go_grown⟩

set_option maxHeartbeats 400000 in
theorem check_any (F B L n : Int) (w : World) :
    Calls Try.prog 76 #[.agg #[.int .i64 F, .int .i64 B, .int .i64 L], .int .i64 n] w fun e w' => e = .returned (.int .i64 (PlanL.check F B L n)) ∧ Below w.heap.size w w' := by
  by_cases h : PlanL.right F B L = true
  · by_cases hn : 128 ≤ n ∧ n ≤ 1024
    · have hr : PlanL.room n = n - 24 := by simp [PlanL.room, hn]
      have hnb : PlanL.nodeBytes F B L = 1 + 33 * F + 51 * B := by rw [PlanL.nodeBytes, if_pos h]
      have hlb : PlanL.leafBytes F B L = 50 * L := by rw [PlanL.leafBytes, if_pos h]
      have hck : PlanL.check F B L n = if n - 24 < 1 + 33 * F + 51 * B ∨ n - 24 < 50 * L then 20 else 0 := by
        rw [PlanL.check, if_neg (by rw [h]; simp; omega)]
      have Hr := Lib.hid hr
      have Hnb := Lib.hid hnb
      have Hlb := Lib.hid hlb
      have Hck := Lib.hid hck
      clear hck hr hnb hlb
      obtain ⟨h1, h2, h3, h4, h5, h6⟩ := (PlanL.right_iff F B L).1 h
      obtain ⟨h7, h8⟩ := hn
      have h0 : (n - 24 == 0) = false := by simp; omega
      go_enter Try.func76, Try.ntmps76
      go_wp2_with (first
        | (go_at_call 49; refine (room_any _ _).mono ?_; rintro e w' ⟨rfl, rfl⟩; rw [Hr.out])
        | (go_at_call 86; refine (thread (planRight_any _ _ _ _) w.heap.size w (by go_grown) (by go_grown)).mono ?_; rintro e w1 ⟨rfl, hB1, hc1, hf1, hs1, hz1⟩; have hl1 : w.heap.size < w1.heap.size := Nat.lt_of_lt_of_le (by simp) hs1)
        | (go_at_call 50; refine (thread (nodeBytes_any _ _ _ _) w.heap.size w (by go_grown) (by go_grown)).mono ?_; go_loud (rintro e w2 ⟨rfl, hB2, hc2, hf2, hs2, hz2⟩; have hl2 : w.heap.size < w2.heap.size := Nat.lt_of_lt_of_le hl1 hs2; rw [Hnb.out]))
        | (go_at_call 51; refine (thread (leafBytes_any _ _ _ _) w.heap.size w (by go_grown) (by go_grown)).mono ?_; rintro e w3 ⟨rfl, hB3, hc3, hf3, hs3, hz3⟩; have hl3 : w.heap.size < w3.heap.size := Nat.lt_of_lt_of_le hl2 hs3; rw [Hlb.out]))
      all_goals (go_ret; exact ⟨ret_int (by rw [Hck.out]; first | rw [if_pos (by omega)] | rw [if_neg (by omega)]), by go_grown⟩)
    · have hr : PlanL.room n = 0 := by simp [PlanL.room]; omega
      have hck : PlanL.check F B L n = 2 := by rw [PlanL.check, if_pos (by omega)]
      have Hr := Lib.hid hr
      rw [hck]; clear hck hr hn
      go_enter Try.func76, Try.ntmps76
      go_wp2_with (first
        | (go_at_call 49; refine (room_any _ _).mono ?_; rintro e w' ⟨rfl, rfl⟩; rw [Hr.out])
        | (go_at_call 86; refine (thread (planRight_any _ _ _ _) w.heap.size w (by go_grown) (by go_grown)).mono ?_; rintro e w1 ⟨rfl, hB1, hc1, hf1, hs1, hz1⟩))
      all_goals (go_ret; exact ⟨rfl, by go_grown⟩)
  · have hr : PlanL.right F B L = false := by simpa using h
    have hck : PlanL.check F B L n = 2 := by rw [PlanL.check, if_pos (Or.inl hr)]
    rw [hck]; clear hck h
    go_enter Try.func76, Try.ntmps76
    go_wp2_with (first
      | (go_at_call 49; refine (room_any _ _).mono ?_; rintro e w' ⟨rfl, rfl⟩)
      | (go_at_call 86; refine (thread (planRight_any _ _ _ _) w.heap.size w (by go_grown) (by go_grown)).mono ?_; rintro e w1 ⟨rfl, hB1, hc1, hf1, hs1, hz1⟩))
    all_goals (go_ret; exact ⟨rfl, by go_grown⟩)

end Go.Proofs.Ytlmlmkeomlehmaa
