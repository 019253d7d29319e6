/-
  Plain laws on a leaf's entries: what an update makes of them, told by what each key has.
  The walk of (leaf.Leaf).Parts.
  The walk of (leaf.Leaf).Get.
  The walk of (leaf.Leaf).On: what updates make of a leaf.
  Entries that may be (leaf.Of, Entry.right, the document's Right); the document's Split.
  The entries of bytes: plain laws, no program in sight.
  The walks of the document's Right, and of leaf.Of.
-/
import Derived.Test.YtafciefjlkdecaaGreatZf
import Derived.Test.YtafciefjlkdecaaGreatZa
import Derived.Deep.RegionHeld3
import Derived.Deep.DrawnRows
import Derived.BigQuiet
import Derived.Test.YtafciefjlkdecaaGreatZe
import Derived.Test.YtafciefjlkdecaaGreatZb
import Derived.Test.YtafciefjlkdecaaGreatZd
import Derived.Deep.RegionWith
namespace Go.Proofs.YtafciefjlkdecaaGreat
open Go.RowKit

/-- The value of a key, if it is there. -/
def lookE (l : List Ent) (k : List UInt8) : Option (List UInt8) := (l.find? fun e => e.key == k).map Ent.val
/-- What an update makes of its key's value. -/
def actE (u : Upd) (o : Option (List UInt8)) : Option (List UInt8) :=
  if u.check ≠ 0 then o
  else
    let r := match o with
      | some v => onL v true u
      | none => onL [] false u
    if r.2 then some r.1 else none

theorem lookE_none {l : List Ent} {k : List UInt8} (h : hasKey Ent.key l k = false) : lookE l k = none := by
  unfold lookE
  rw [Option.map_eq_none_iff, List.find?_eq_none]
  intro e he hk
  have : hasKey Ent.key l k = true := hasKey_iff.2 ⟨e, he, by simpa using hk⟩
  rw [h] at this; exact absurd this (by simp)
theorem lookE_at {l : List Ent} (hr : Rising Ent.key l) (i : Nat) (hi : i < l.length) : lookE l l[i].key = some l[i].val := by
  unfold lookE
  rw [List.find?_eq_some_iff_getElem.2 ⟨by simp, i, hi, rfl, fun j hj => by simpa using bl_ne (hr.lt hj hi)⟩]
  rfl
theorem lookE_mem {l : List Ent} (hr : Rising Ent.key l) (e : Ent) (he : e ∈ l) : lookE l e.key = some e.val := by
  obtain ⟨i, hi, rfl⟩ := List.getElem_of_mem he
  exact lookE_at hr i hi
theorem mem_lookE {l : List Ent} {k v : List UInt8} (h : lookE l k = some v) : (⟨k, v⟩ : Ent) ∈ l := by
  unfold lookE at h
  rw [Option.map_eq_some_iff] at h
  obtain ⟨e, he, hv⟩ := h
  have h1 := List.find?_some he
  have h2 := List.mem_of_find?_eq_some he
  have : e = ⟨k, v⟩ := by cases e; simp at h1 hv; rw [h1, hv]
  rwa [this] at h2
/-- By rising keys, and of the same members: one. -/
theorem risingE_unique : ∀ (a b : List Ent), Rising Ent.key a → Rising Ent.key b → (∀ e, e ∈ a ↔ e ∈ b) → a = b
  | [], [], _, _, _ => rfl
  | [], y :: b, _, _, h => by have := (h y).2 (by simp); simp at this
  | x :: a, [], _, _, h => by have := (h x).1 (by simp); simp at this
  | x :: a, y :: b, ha, hb, h => by
    have hnx : ∀ e ∈ a, e.key ≠ x.key := fun e he k => bl_ne (ha.cons.1 e he) k.symm
    have hny : ∀ e ∈ b, e.key ≠ y.key := fun e he k => bl_ne (hb.cons.1 e he) k.symm
    have hxy : x = y := by
      rcases List.mem_cons.1 ((h x).1 (by simp)) with e | h1
      · exact e
      · rcases List.mem_cons.1 ((h y).2 (by simp)) with e | h2
        · exact e.symm
        · have k1 := ha.cons.1 y h2
          have k2 := hb.cons.1 x h1
          rw [bl_asymm k1] at k2
          exact absurd k2 (by simp)
    subst hxy
    rw [risingE_unique a b ha.cons.2 hb.cons.2 (fun e => ?_)]
    constructor
    · intro he
      rcases List.mem_cons.1 ((h e).1 (List.mem_cons_of_mem _ he)) with e' | h1
      · exact absurd (by rw [e']) (hnx e he)
      · exact h1
    · intro he
      rcases List.mem_cons.1 ((h e).2 (List.mem_cons_of_mem _ he)) with e' | h1
      · exact absurd (by rw [e']) (hny e he)
      · exact h1
theorem lookE_ext {a b : List Ent} (ha : Rising Ent.key a) (hb : Rising Ent.key b) (h : ∀ k, lookE a k = lookE b k) : a = b :=
  risingE_unique a b ha hb fun e => ⟨fun he => by have := lookE_mem ha e he; rw [h] at this; exact mem_lookE this, fun he => by have := lookE_mem hb e he; rw [← h] at this; exact mem_lookE this⟩

/-! ### the three things that an update may do -/
theorem insE_mem {l : List Ent} {i : Nat} {u x : Ent} : x ∈ insE l i u ↔ x = u ∨ x ∈ l := by
  unfold insE
  rw [List.mem_append, List.mem_cons]
  have : x ∈ l ↔ x ∈ l.take i ∨ x ∈ l.drop i := by rw [← List.mem_append, List.take_append_drop]
  rw [this]
  constructor
  · rintro (h | h | h)
    · exact Or.inr (Or.inl h)
    · exact Or.inl h
    · exact Or.inr (Or.inr h)
  · rintro (h | h | h)
    · exact Or.inr (Or.inl h)
    · exact Or.inl h
    · exact Or.inr (Or.inr h)
theorem hasKeyE_not {l : List Ent} {k : List UInt8} (hno : hasKey Ent.key l k = false) : ∀ x ∈ l, x.key ≠ k := fun x hx e => by
  have : hasKey Ent.key l k = true := hasKey_iff.2 ⟨x, hx, e⟩
  rw [hno] at this; exact absurd this (by simp)
theorem insE_rising {l : List Ent} (hr : Rising Ent.key l) (u : Ent) (hno : hasKey Ent.key l u.key = false) : Rising Ent.key (insE l (below Ent.key l u.key) u) := by
  have hne := hasKeyE_not hno
  unfold insE
  have h1 : ∀ a ∈ l.take (below Ent.key l u.key), bl a.key u.key = true := by
    intro a ha
    obtain ⟨i, hi, rfl⟩ := List.getElem_of_mem ha
    rw [List.length_take] at hi
    rw [List.getElem_take]
    exact (hr.below u.key i (by omega)).2 (by omega)
  have h2 : ∀ b ∈ l.drop (below Ent.key l u.key), bl u.key b.key = true := by
    intro b hb
    obtain ⟨i, hi, rfl⟩ := List.getElem_of_mem hb
    rw [List.length_drop] at hi
    rw [List.getElem_drop]
    have hb' : ¬ bl (l[below Ent.key l u.key + i]'(by omega)).key u.key = true := by
      rw [hr.below u.key _ (by omega)]; omega
    rcases bl_not (Bool.not_eq_true _ ▸ hb' : bl (l[below Ent.key l u.key + i]'(by omega)).key u.key = false) with e | e
    · exact absurd e.symm (hne _ (List.getElem_mem _))
    · exact e
  have h3 : Rising Ent.key (l.take (below Ent.key l u.key) ++ l.drop (below Ent.key l u.key)) := by rw [List.take_append_drop]; exact hr
  have h4 := List.pairwise_append.1 h3
  refine List.pairwise_append.2 ⟨h4.1, List.pairwise_cons.2 ⟨h2, h4.2.1⟩, fun a ha b hb => ?_⟩
  rcases List.mem_cons.1 hb with rfl | hb
  · exact h1 a ha
  · exact h4.2.2 a ha b hb
theorem delE_eq (l : List Ent) (i : Nat) : delE l i = l.eraseIdx i := by rw [delE, List.eraseIdx_eq_take_drop_succ]
theorem delE_sub (l : List Ent) (i : Nat) : (delE l i).Sublist l := by rw [delE_eq]; exact List.eraseIdx_sublist l i
theorem delE_rising {l : List Ent} (hr : Rising Ent.key l) (i : Nat) : Rising Ent.key (delE l i) := List.Pairwise.sublist (delE_sub l i) hr
theorem setE_rising {l : List Ent} (hr : Rising Ent.key l) (i : Nat) (hi : i < l.length) (y : List UInt8) : Rising Ent.key (l.set i ⟨l[i].key, y⟩) := by
  have e : ∀ m : List Ent, Rising Ent.key m ↔ (m.map Ent.key).Pairwise (fun a b => bl a b = true) := fun m => by unfold Rising; rw [List.pairwise_map]
  rw [e, List.map_set]
  have : (l.map Ent.key).set i l[i].key = l.map Ent.key := by
    apply List.ext_getElem (by simp)
    intro j h1 h2
    rw [List.getElem_set]
    split
    · rename_i e; subst e; simp
    · rfl
  rw [this, ← e]
  exact hr

/-- The lookup in a list by rising keys, by its members. -/
theorem lookE_iff {l : List Ent} (hr : Rising Ent.key l) (k v : List UInt8) : lookE l k = some v ↔ (⟨k, v⟩ : Ent) ∈ l := ⟨mem_lookE, fun h => lookE_mem hr _ h⟩
theorem lookE_by {l : List Ent} (hr : Rising Ent.key l) (k : List UInt8) (o : Option (List UInt8)) (h : ∀ v, (⟨k, v⟩ : Ent) ∈ l ↔ o = some v) : lookE l k = o := by
  cases hl : lookE l k with
  | some v => exact ((h v).1 ((lookE_iff hr k v).1 hl)).symm
  | none =>
    cases o with
    | none => rfl
    | some v => rw [(lookE_iff hr k v).2 ((h v).2 rfl)] at hl; exact hl.symm
theorem mem_delE {l : List Ent} (hr : Rising Ent.key l) (i : Nat) (hi : i < l.length) (e : Ent) : e ∈ delE l i ↔ e ∈ l ∧ e.key ≠ l[i].key := by
  constructor
  · intro h
    refine ⟨(delE_sub l i).subset h, fun hk => ?_⟩
    unfold delE at h
    rcases List.mem_append.1 h with h | h
    · obtain ⟨j, hj, rfl⟩ := List.getElem_of_mem h
      rw [List.length_take] at hj
      rw [List.getElem_take] at hk
      exact bl_ne (hr.lt (show j < i by omega) hi) hk
    · obtain ⟨j, hj, rfl⟩ := List.getElem_of_mem h
      rw [List.length_drop] at hj
      rw [List.getElem_drop] at hk
      exact bl_ne (hr.lt (show i < i + 1 + j by omega) (by omega)) hk.symm
  · rintro ⟨h, hk⟩
    obtain ⟨j, hj, rfl⟩ := List.getElem_of_mem h
    unfold delE
    rw [List.mem_append]
    have hji : j ≠ i := fun e => hk (by subst e; rfl)
    rcases Nat.lt_or_ge j i with h1 | h1
    · exact Or.inl (List.mem_take_iff_getElem.2 ⟨j, by omega, rfl⟩)
    · exact Or.inr (List.mem_drop_iff_getElem.2 ⟨j - (i + 1), by omega, by congr 1; omega⟩)
theorem mem_setE {l : List Ent} (hr : Rising Ent.key l) (i : Nat) (hi : i < l.length) (y : List UInt8) (e : Ent) : e ∈ l.set i ⟨l[i].key, y⟩ ↔ e = ⟨l[i].key, y⟩ ∨ (e ∈ l ∧ e.key ≠ l[i].key) := by
  rw [List.mem_iff_getElem]
  constructor
  · rintro ⟨j, hj, he⟩
    rw [List.length_set] at hj
    rw [List.getElem_set] at he
    split at he
    · exact Or.inl he.symm
    · rename_i hij
      refine Or.inr ⟨he ▸ List.getElem_mem hj, fun hk => ?_⟩
      rw [← he] at hk
      rcases Nat.lt_or_gt_of_ne hij with h1 | h1
      · exact bl_ne (hr.lt h1 hj) hk.symm
      · exact bl_ne (hr.lt h1 hi) hk
  · rintro (rfl | ⟨h, hk⟩)
    · exact ⟨i, by rw [List.length_set]; exact hi, by simp⟩
    · obtain ⟨j, hj, rfl⟩ := List.getElem_of_mem h
      refine ⟨j, by rw [List.length_set]; exact hj, ?_⟩
      rw [List.getElem_set, if_neg (fun e => hk (by subst e; rfl))]

/-! ### an update -/
theorem onE_cases (l : List Ent) (u : Upd) (hr : Rising Ent.key l) :
    (onE l u = l ∧ actE u (lookE l u.key) = lookE l u.key) ∨
    (hasKey Ent.key l u.key = false ∧ ∃ y, actE u (lookE l u.key) = some y ∧ onL [] false u = (y, true) ∧ u.check = 0 ∧ onE l u = insE l (below Ent.key l u.key) ⟨u.key, y⟩) ∨
    (∃ (i : Nat) (hi : i < l.length), l[i].key = u.key ∧ ∃ y, actE u (lookE l u.key) = some y ∧ onL l[i].val true u = (y, true) ∧ u.check = 0 ∧ onE l u = l.set i ⟨l[i].key, y⟩) ∨
    (∃ (i : Nat) (hi : i < l.length), l[i].key = u.key ∧ actE u (lookE l u.key) = none ∧ onE l u = delE l i) := by
  by_cases hc : u.check = 0
  · have hc' : ¬ u.check ≠ 0 := by simp [hc]
    unfold onE newE actE
    rw [if_neg hc', if_neg hc']
    cases hh : hasKey Ent.key l u.key with
    | false =>
      rw [lookE_none hh]
      cases hy : onL [] false u with
      | mk y is => cases is <;> simp [hc]
    | true =>
      obtain ⟨hlt, hkey⟩ := (hr.found u.key).1 hh
      have ho : oldE l u.key = (l[below Ent.key l u.key]'hlt).val := by unfold oldE; rw [List.getElem?_eq_getElem hlt]; rfl
      have hl := lookE_at hr _ hlt
      rw [hkey] at hl
      rw [hl, ho]
      generalize below Ent.key l u.key = i at *
      cases hy : onL (l[i]'hlt).val true u with
      | mk y is =>
        cases is with
        | true => exact Or.inr (Or.inr (Or.inl ⟨i, hlt, hkey, y, by simp [hy], hy, hc, by simp [hkey]⟩))
        | false => exact Or.inr (Or.inr (Or.inr ⟨i, hlt, hkey, by simp [hy], by simp⟩))
  · left
    unfold onE actE
    rw [if_pos hc, if_pos hc]
    exact ⟨rfl, rfl⟩
theorem onE_rising {l : List Ent} (hr : Rising Ent.key l) (u : Upd) : Rising Ent.key (onE l u) := by
  rcases onE_cases l u hr with ⟨e, -⟩ | ⟨hno, y, -, -, -, e⟩ | ⟨i, hi, -, y, -, -, -, e⟩ | ⟨i, hi, -, -, e⟩
  · rw [e]; exact hr
  · rw [e]; exact insE_rising hr ⟨u.key, y⟩ hno
  · rw [e]; exact setE_rising hr i hi y
  · rw [e]; exact delE_rising hr i
theorem onE_len {l : List Ent} (hr : Rising Ent.key l) (u : Upd) : (onE l u).length ≤ l.length + 1 := by
  rcases onE_cases l u hr with ⟨e, -⟩ | ⟨hno, y, -, -, -, e⟩ | ⟨i, hi, -, y, -, -, -, e⟩ | ⟨i, hi, -, -, e⟩
  · rw [e]; omega
  · rw [e, insE_len _ _ _ (below_le _ _)]; omega
  · rw [e, List.length_set]; omega
  · rw [e, delE_len _ _ hi]; omega
/-- Entries whose values aren't too long. -/
def FineE (l : List Ent) : Prop := ∀ e ∈ l, 1 ≤ e.key.length ∧ e.key.length ≤ 16 ∧ e.val.length ≤ 32
theorem onE_fine {l : List Ent} (hr : Rising Ent.key l) (hf : FineE l) (u : Upd) : FineE (onE l u) := by
  rcases onE_cases l u hr with ⟨e, -⟩ | ⟨hno, y, -, hy, hc, e⟩ | ⟨i, hi, hk, y, -, hy, hc, e⟩ | ⟨i, hi, -, -, e⟩
  · rw [e]; exact hf
  · rw [e]
    intro x hx
    obtain ⟨c1, c2, c3, -⟩ := Upd.check_ok hc
    rcases insE_mem.1 hx with rfl | hx
    · have := onL_len [] false u 32 (by simp) c3 (by decide)
      rw [hy] at this
      exact ⟨c1, c2, this⟩
    · exact hf x hx
  · rw [e]
    intro x hx
    obtain ⟨c1, c2, c3, -⟩ := Upd.check_ok hc
    rcases (mem_setE hr i hi y x).1 hx with rfl | ⟨hx, -⟩
    · have h0 := hf _ (List.getElem_mem hi)
      have := onL_len l[i].val true u 32 h0.2.2 c3 (by decide)
      rw [hy] at this
      exact ⟨h0.1, h0.2.1, this⟩
    · exact hf x hx
  · rw [e]
    exact fun x hx => hf x ((delE_sub l i).subset hx)
theorem onE_look {l : List Ent} (hr : Rising Ent.key l) (u : Upd) (k : List UInt8) : lookE (onE l u) k = if k = u.key then actE u (lookE l k) else lookE l k := by
  have hr' := onE_rising hr u
  by_cases hk : k = u.key
  · subst hk
    rw [if_pos rfl]
    rcases onE_cases l u hr with ⟨e, h⟩ | ⟨hno, y, h, -, -, e⟩ | ⟨i, hi, hki, y, h, -, -, e⟩ | ⟨i, hi, hki, h, e⟩
    · rw [e, h]
    · rw [h]
      exact (lookE_iff hr' _ _).2 (by rw [e]; exact insE_mem.2 (Or.inl rfl))
    · rw [h]
      exact (lookE_iff hr' _ _).2 (by rw [e]; exact (mem_setE hr i hi y _).2 (Or.inl (by rw [hki])))
    · rw [h]
      refine lookE_by hr' _ _ fun v => ⟨fun hm => ?_, fun hm => by cases hm⟩
      rw [e] at hm
      exact absurd hki.symm ((mem_delE hr i hi _).1 hm).2
  · rw [if_neg hk]
    refine lookE_by hr' _ _ fun v => ?_
    rw [lookE_iff hr]
    rcases onE_cases l u hr with ⟨e, h⟩ | ⟨hno, y, h, -, -, e⟩ | ⟨i, hi, hki, y, h, -, -, e⟩ | ⟨i, hi, hki, h, e⟩
    · rw [e]
    · rw [e, insE_mem]
      exact ⟨fun h => h.resolve_left (fun e' => hk (congrArg Ent.key e')), Or.inr⟩
    · rw [e, mem_setE hr i hi, hki]
      exact ⟨fun h => (h.resolve_left (fun e' => hk (congrArg Ent.key e'))).1, fun h => Or.inr ⟨h, hk⟩⟩
    · rw [e, mem_delE hr i hi, hki]
      exact ⟨fun h => h.1, fun h => ⟨h, hk⟩⟩

/-- One behind the other. -/
def onAll (l : List Ent) (us : List Upd) : List Ent := us.foldl onE l
theorem onAll_snoc (l : List Ent) (us : List Upd) (u : Upd) : onAll l (us ++ [u]) = onE (onAll l us) u := by simp [onAll]
theorem onAll_ok (l : List Ent) (hr : Rising Ent.key l) (hf : FineE l) : ∀ us : List Upd, Rising Ent.key (onAll l us) ∧ FineE (onAll l us) ∧ (onAll l us).length ≤ l.length + us.length := by
  intro us
  induction us using snoc_ind with
  | h0 => exact ⟨hr, hf, by simp [onAll]⟩
  | h1 us u ih =>
    obtain ⟨h1, h2, h3⟩ := ih
    rw [onAll_snoc]
    refine ⟨onE_rising h1 u, onE_fine h1 h2 u, ?_⟩
    have := onE_len h1 u
    simp only [List.length_append, List.length_singleton]
    omega
/-- Updates of unlike keys: each key by its own, if there is one. -/
theorem onAll_look (l : List Ent) (hr : Rising Ent.key l) (hf : FineE l) : ∀ us : List Upd, (us.map Upd.key).Nodup → ∀ k, lookE (onAll l us) k = match us.find? (fun u => u.key == k) with | some u => actE u (lookE l k) | none => lookE l k := by
  intro us
  induction us using snoc_ind with
  | h0 => intro _ k; rfl
  | h1 us u ih =>
    intro hn k
    rw [List.map_append, List.nodup_append] at hn
    have h := ih hn.1 k
    rw [onAll_snoc, onE_look (onAll_ok l hr hf us).1, h, List.find?_append]
    by_cases hk : k = u.key
    · subst hk
      rw [if_pos rfl]
      have : us.find? (fun v => v.key == u.key) = none := by
        rw [List.find?_eq_none]
        intro v hv e
        exact hn.2.2 v.key (List.mem_map.2 ⟨v, hv, rfl⟩) u.key (by simp) (by simpa using e)
      rw [this]
      simp
    · rw [if_neg hk]
      cases hu : us.find? (fun v => v.key == k) with
      | some v => simp
      | none =>
        have : (u.key == k) = false := by simpa using fun e => hk e.symm
        simp [this]
/-- .. in whatever order. -/
theorem onAll_perm (l : List Ent) (hr : Rising Ent.key l) (hf : FineE l) (us vs : List Upd) (hn : (us.map Upd.key).Nodup) (hp : vs.Perm us) : onAll l vs = onAll l us := by
  have hn' : (vs.map Upd.key).Nodup := (hp.map Upd.key).nodup_iff.2 hn
  refine lookE_ext (onAll_ok l hr hf vs).1 (onAll_ok l hr hf us).1 fun k => ?_
  rw [onAll_look l hr hf vs hn', onAll_look l hr hf us hn]
  have hfind : vs.find? (fun u => u.key == k) = us.find? (fun u => u.key == k) := by
    have key : ∀ (ws : List Upd), (ws.map Upd.key).Nodup → ∀ u, ws.find? (fun u => u.key == k) = some u ↔ u ∈ ws ∧ u.key = k := by
      intro ws hw u
      constructor
      · intro h
        exact ⟨List.mem_of_find?_eq_some h, by simpa using List.find?_some h⟩
      · rintro ⟨h1, h2⟩
        obtain ⟨i, hi, rfl⟩ := List.getElem_of_mem h1
        refine List.find?_eq_some_iff_getElem.2 ⟨by simpa using h2, i, hi, rfl, fun j hj => ?_⟩
        have hne := (List.pairwise_iff_getElem.1 hw) j i (by simp; omega) (by simpa using hi) hj
        simp only [List.getElem_map] at hne
        rw [h2] at hne
        simpa using hne
    cases hv : vs.find? (fun u => u.key == k) with
    | some u =>
      have := (key vs hn' u).1 hv
      exact ((key us hn u).2 ⟨hp.mem_iff.1 this.1, this.2⟩).symm
    | none =>
      cases hu : us.find? (fun u => u.key == k) with
      | none => rfl
      | some u =>
        have := (key us hn u).1 hu
        rw [(key vs hn' u).2 ⟨hp.mem_iff.2 this.1, this.2⟩] at hv
        exact hv.symm
  rw [hfind]

end Go.Proofs.YtafciefjlkdecaaGreat

namespace Go.Proofs.YtafciefjlkdecaaGreat
open Go.RowKit
attribute [local go_sem ↓] Go.wp_at_zero Go.wp_at_succ

def tmax (a b : Int) : Int := if b > a then b else a
theorem run_tmax {P : Program} (ts : Array TypeId) (t : TypeId) (a b : Int) (w : World) : (Builtin.max_ ts t #[.int .i64 a, .int .i64 b]).run P w = .ok (.int .i64 (tmax a b)) w := by
  rw [run_max_int2]; rfl

/-- How many parts there are. -/
def partsN (L m : Nat) : Nat := if L = 0 then 1 else (L - 1) / m + 1
theorem partsN_pos (L m : Nat) : 0 < partsN L m := by
  unfold partsN
  generalize (L - 1) / m = q
  split <;> omega
theorem partsN_le (L m : Nat) : partsN L m ≤ L + 1 := by
  unfold partsN
  split
  · omega
  · have := Nat.div_le_self (L - 1) m; omega
/-- As the program reckons it, whatever the most is. -/
theorem partsN_is (L : Nat) (hL : L ≤ 100000) (m : Int) (h1 : 1 ≤ m) (h2 : m ≤ 9223372036854775807) : tmax 1 (IntKind.i64.wrap ((IntKind.i64.wrap (IntKind.i64.wrap ((L : Int) + m) - 1)).tdiv m)) = (partsN L m.toNat : Nat) := by
  obtain ⟨k, rfl⟩ : ∃ k : Nat, m = (k : Int) := ⟨m.toNat, by omega⟩
  simp only [Int.toNat_natCast]
  have hk : 0 < k := by omega
  have hfin : ∀ x : Int, -9223372036854775808 ≤ x → x ≤ 0 → partsN L k = 1 → tmax 1 (IntKind.i64.wrap x) = (partsN L k : Nat) := fun x hx0 hx e => by rw [e, IntWalk.i64_in x (by omega)]; unfold tmax; split <;> omega
  by_cases hs : (L : Int) + k - 1 ≤ 9223372036854775807
  · have e : IntKind.i64.wrap (IntKind.i64.wrap ((L : Int) + k) - 1) = (L : Int) + k - 1 := by
      by_cases h : (L : Int) + k ≤ 9223372036854775807
      · rw [IntWalk.i64_in ((L : Int) + k) (by omega), IntWalk.i64_in _ (by omega)]
      · have : (L : Int) + k = 9223372036854775808 := by omega
        rw [this]; rfl
    rw [e]
    by_cases h0 : L = 0
    · subst h0
      have ez : (((0 : Nat) : Int) + k - 1).tdiv k = 0 := by
        rw [Int.tdiv_eq_ediv_of_nonneg (by omega)]
        exact Int.ediv_eq_zero_of_lt (by omega) (by omega)
      rw [ez]
      exact hfin 0 (by decide) (by decide) rfl
    · obtain ⟨j, rfl⟩ : ∃ j, L = j + 1 := ⟨L - 1, by omega⟩
      have e2 : ((j + 1 : Nat) : Int) + k - 1 = ((j + k : Nat) : Int) := by omega
      rw [e2, Int.tdiv_eq_ediv_of_nonneg (by omega), ← Int.natCast_ediv, Nat.add_div_right _ hk]
      have e3 : partsN (j + 1) k = j / k + 1 := by unfold partsN; rw [if_neg (by omega), Nat.add_sub_cancel]
      have e4 := Nat.div_le_self j k
      rw [e3]
      generalize j / k = q at *
      rw [IntWalk.i64_in _ (by omega)]
      unfold tmax
      split <;> omega
  · have hp : partsN L k = 1 := by
      unfold partsN
      split
      · rfl
      · rw [Nat.div_eq_of_lt (by omega)]
    have e1 : IntKind.i64.wrap ((L : Int) + k) = (L : Int) + k - 18446744073709551616 := by rw [IntKind.wrap_i64]; omega
    have e2 : IntKind.i64.wrap ((L : Int) + k - 18446744073709551616 - 1) = (L : Int) + k - 18446744073709551616 - 1 := by rw [IntKind.wrap_i64]; omega
    rw [e1, e2]
    generalize hx : (L : Int) + k - 18446744073709551616 - 1 = x
    have hx0 : x ≤ 0 := by omega
    obtain ⟨y, rfl⟩ : ∃ y : Nat, x = -(y : Int) := ⟨(-x).toNat, by omega⟩
    rw [Int.neg_tdiv, Int.tdiv_eq_ediv_of_nonneg (by omega), ← Int.natCast_ediv]
    have := Nat.div_le_self y k
    generalize y / k = q at *
    exact hfin _ (by omega) (by omega) hp

/-- Where a part begins, and the part. -/
def partAt (L n k : Nat) : Nat := k * (L / n) + min k (L % n)
def partOf (l : List Ent) (n k : Nat) : List Ent := (l.take (partAt l.length n (k + 1))).drop (partAt l.length n k)
theorem partAt_zero (L n : Nat) : partAt L n 0 = 0 := by simp [partAt]
theorem partAt_succ (L n k : Nat) : partAt L n (k + 1) = partAt L n k + L / n + (if k < L % n then 1 else 0) := by
  unfold partAt
  rw [Nat.succ_mul]
  split <;> omega
theorem partAt_all (L n : Nat) (hn : 0 < n) : partAt L n n = L := by
  unfold partAt
  have := Nat.div_add_mod L n
  have h2 := Nat.mod_lt L hn
  rw [Nat.min_eq_right (by omega)]
  exact this
theorem partAt_mono (L n k j : Nat) (h : k ≤ j) : partAt L n k ≤ partAt L n j := by
  unfold partAt
  have := Nat.mul_le_mul_right (L / n) h
  omega
theorem partAt_le (L n k : Nat) (hn : 0 < n) (h : k ≤ n) : partAt L n k ≤ L := by
  have := partAt_mono L n k n h
  rwa [partAt_all L n hn] at this
theorem partOf_len (l : List Ent) (n k : Nat) (hn : 0 < n) (h : k < n) : (partOf l n k).length = l.length / n + (if k < l.length % n then 1 else 0) := by
  unfold partOf
  have h1 := partAt_le l.length n (k + 1) hn (by omega)
  have h2 := partAt_succ l.length n k
  rw [List.length_drop, List.length_take, Nat.min_eq_left h1, h2]
  generalize l.length / n = q
  generalize (if k < l.length % n then 1 else 0) = q2
  omega

/-- A part in a cell: a row of its own. -/
def PartIs (w : World) (x : Value) (l : List Ent) : Prop := ∃ a c B, x = .slice a l.length c ∧ w.ownsRow B 73 2 (.slice a l.length c) l.length (cellsE l)
theorem PartIs.kept {w w' : World} {x : Value} {l : List Ent} (h : PartIs w x l) (hb : Below w.heap.size w w') : PartIs w' x l := by
  obtain ⟨a, c, B, e, h⟩ := h
  exact ⟨a, c, B, e, own_below h hb⟩
/-- The parts, in a row of the call's own. -/
structure PartsAt (B : Nat) (v : Value) (ls : Nat → List Ent) (n : Nat) (w : World) : Prop where
  form : ∃ vs, w.ownsRow B 99 1 v n vs ∧ ∀ j, j < n → ∃ x, vs[j]? = some x ∧ PartIs w x (ls j)
theorem PartsAt.on {B : Nat} {v : Value} {ls : Nat → List Ent} {n : Nat} {w w' : World} (h : PartsAt B v ls n w) (hb : Below w.heap.size w w') : PartsAt B v ls n w' := by
  obtain ⟨vs, h1, h2⟩ := h
  exact ⟨vs, own_below h1 hb, fun j hj => by obtain ⟨x, hx, hp⟩ := h2 j hj; exact ⟨x, hx, hp.kept hb⟩⟩
/-- Rows of unlike types are apart. -/
theorem own_types {w : World} {B B' : Nat} {E E' : TypeId} {k k' n n' : Nat} {v v' : Value} {xs xs' : List Value} (h : w.ownsRow B E k v n xs) (h' : w.ownsRow B' E' k' v' n' xs') (hne : E ≠ E') : v.ownBlock = none ∨ v.ownBlock ≠ v'.ownBlock := by
  rcases ownsRow_open h with ⟨rfl, -, -⟩ | ⟨g, cap, cur, rfl, -, hr, -⟩
  · exact Or.inl rfl
  · refine Or.inr fun e => ?_
    rcases ownsRow_open h' with ⟨rfl, -, -⟩ | ⟨g', cap', cur', rfl, -, hr', -⟩
    · simp [Value.ownBlock] at e
    · simp only [Value.ownBlock, Option.some.injEq] at e
      subst e
      have := hr.symm.trans hr'
      simp at this
      exact hne this.2
theorem parts_put {B B2 : Nat} {v v' : Value} {ls : Nat → List Ent} {n : Nat} {wr w2 w3 : World} {vs : List Value} {a2 : Option Addr} {m c2 : Nat} {t : TypeId} (h1 : wr.ownsRow B 99 1 v n vs) (h2 : ∀ j, j < n → ∃ x, vs[j]? = some x ∧ PartIs wr x (ls j)) (hb : Below wr.heap.size wr w2)
    (hm : m = (ls n).length) (hown2 : w2.ownsRow B2 73 2 (.slice a2 m c2) m (cellsE (ls n))) (hown' : w3.ownsRow B 99 1 v' (n + 1) (vs ++ [.slice a2 m c2])) (hg : (w2.alloc (.cells #[.slice a2 m c2] t)).grownBy w3 v.ownBlock) : PartsAt B v' ls (n + 1) w3 := by
  subst hm
  have hv2 : (w2.alloc (.cells #[.slice a2 (ls n).length c2] t)).ownsRow B 99 1 v n vs := (own_below h1 hb).alloc _
  have hl : vs.length = n := by have := h1.1; omega
  refine ⟨_, hown', fun j hj => ?_⟩
  by_cases hjn : j < n
  · obtain ⟨x, hx, a, c, B', e, ho⟩ := h2 j hjn
    refine ⟨x, by rw [List.getElem?_append_left (by omega)]; exact hx, a, c, B', e, ?_⟩
    have ho' : (w2.alloc (.cells #[.slice a2 (ls n).length c2] t)).ownsRow B' 73 2 (.slice a (ls j).length c) (ls j).length (cellsE (ls j)) := (own_below ho hb).alloc _
    exact ho'.kept hg (own_types ho' hv2 (by decide))
  · obtain rfl : j = n := by omega
    refine ⟨.slice a2 (ls j).length c2, by rw [List.getElem?_append_right (by omega), hl]; simp, a2, c2, B2, rfl, ?_⟩
    have ho' : (w2.alloc (.cells #[.slice a2 (ls j).length c2] t)).ownsRow B2 73 2 (.slice a2 (ls j).length c2) (ls j).length (cellsE (ls j)) := hown2.alloc _
    exact ho'.kept hg (own_types ho' hv2 (by decide))

theorem elemE : Tryz.prog.elem 43 = 73 := by kernel_rfl
theorem underE : Tryz.prog.underlying 43 = some (.slice (Tryz.prog.elem 43)) := by rw [elemE]; exact Tryz.underlying43
theorem sizeElemE (w : World) : (sizeOf (Tryz.prog.elem 43)).run Tryz.prog w = .ok 2 w := by kernel_rfl
/-- A piece of a slice of entries. -/
theorem partE_mid (ao : Option Addr) (n c i k : Nat) (l : List Ent) (w : World) (hs : SlAt Ent.cells 2 w ao l) (hl : l.length = n) (hnc : n ≤ c) (hc : (c : Int) ≤ 9223372036854775807) (hik : i ≤ k) (hkn : k ≤ n) (hno : ao = none → c = 0) :
    ∃ A, (∀ w, (Instr.slice 43 (.slice ao n c) (some (.int .i64 (i : Int))) (some (.int .i64 (k : Int))) none).run Tryz.prog w = .ok (.slice A (k - i) (c - i)) w) ∧ SlE w (.slice A (k - i) (c - i)) ((l.drop i).take (k - i)) := by
  have hlen : ((l.drop i).take (k - i)).length = k - i := by rw [List.length_take, List.length_drop]; omega
  refine ⟨if c = i then ao else ao.map (·.add (i * 2)), fun w => ?_, ?_⟩
  · rw [run_slice_lh w 43 ao n c underE .i64 .i64 i k (by omega) (by omega) (by omega)]
    rw [sizeElemE]; rfl
  · refine ⟨_, c - i, by rw [hlen], ?_, by rw [hlen]; omega, by omega, fun e => ?_⟩
    · by_cases h0 : i < n
      · rw [if_neg (by omega)]
        obtain ⟨b, off, rfl, hb, hcc⟩ := hs.at (by omega)
        rw [show (some (⟨b, off, none⟩ : Addr)).map (·.add (i * 2)) = some ⟨b, off + i * 2, none⟩ by simp [Addr.add]]
        exact (hs.drop i b off rfl).cut _
      · exact Or.inl (List.eq_nil_of_length_eq_zero (by omega))
    · by_cases h0 : c = i
      · omega
      · rw [if_neg h0] at e
        cases ao with
        | none => have := hno rfl; omega
        | some a => simp at e

theorem cell_one_new (w : World) (x : Value) (t : TypeId) : ∀ j v, [x][j]? = some v → (w.alloc (.cells #[x] t)).cell? ((⟨w.heap.size, 0, none⟩ : Addr).add j) = some v := by
  intro j v hj
  match j, hj with
  | 0, hj => simp at hj; subst hj; simp [Addr.add]

theorem infoL : (Tryz.prog.info? 99).map (fun i => (i.zero, i.size, i.bytes)) = some (some (.agg #[.slice none 0 0]), 1, 24) := by kernel_rfl

set_option maxRecDepth 100000 in
set_option maxHeartbeats 4000000 in
theorem parts_any (v : Value) (l : List Ent) (most : Int) (w : World) (hv : BoxE w v l) (hl : l.length ≤ 100000) (hm : most ≤ 9223372036854775807) :
    Calls Tryz.prog 97 #[v, .int .i64 most] w fun e w' => (∃ v', e = .returned v' ∧ PartsAt w.heap.size v' (partOf l (partsN l.length (tmax most 1).toNat)) (partsN l.length (tmax most 1).toNat) w') ∧ Below w.heap.size w w' := by
  have hmax := fun ts t a b w => run_tmax (P := Tryz.prog) ts t a b w
  obtain ⟨i0, hi, hz0, hz1, hzb⟩ := info_parts infoL
  have h1 : 1 ≤ tmax most 1 := by unfold tmax; split <;> omega
  have h2 : tmax most 1 ≤ 9223372036854775807 := by unfold tmax; split <;> omega
  have hn := partsN_is l.length hl (tmax most 1) h1 h2
  simp only [IntWalk.i64_left] at hn
  obtain ⟨m, hmd⟩ : ∃ m, tmax most 1 = m := ⟨_, rfl⟩
  rw [hmd] at hn h1 h2 ⊢
  have hpos := partsN_pos l.length m.toNat
  have hle := partsN_le l.length m.toNat
  generalize partsN l.length m.toNat = n at *
  obtain ⟨s, rfl, hs⟩ := hv
  have HS := Lib.hid hs
  obtain ⟨ao, c, rfl, hs0, hc1, hc2, hcn⟩ := hs
  have hn0 : ¬ (n : Int) = 0 := by omega
  have hm0 : ¬ m = 0 := by omega
  clear hs0 hcn h1 h2
  go_enter Tryz.func97, Tryz.ntmps97
  go_wp2_with fail
  go_quiet (fail)
  go_wp2_with fail
  have hqn := Nat.div_le_self l.length n
  have hrn := Nat.mod_lt l.length hpos
  have hq : wrap64 ((l.length : Int) / (n : Int)) = ((l.length / n : Nat) : Int) := by rw [← Int.natCast_ediv]; generalize l.length / n = q at *; exact IntWalk.wrap64_in _ (by omega)
  have hr : (l.length : Int) % (n : Int) = ((l.length % n : Nat) : Int) := by rw [Int.natCast_emod]
  rw [hq, hr]
  have hat : ∀ k, k < n → partAt l.length n (k + 1) = partAt l.length n k + l.length / n + (if k < l.length % n then 1 else 0) ∧ partAt l.length n (k + 1) ≤ l.length := fun k hk => ⟨partAt_succ _ _ _, partAt_le _ _ _ hpos (by omega)⟩
  have HAT := Lib.hid hat
  have hpl := Lib.hid (fun k (hk : k < n) => partOf_len l n k hpos hk)
  clear hat hq hr hmax hn
  have hW : Below (w.heap.size + 1) (w.alloc (.cells #[.slice ao l.length c] 99)) ((w.alloc (.cells #[.slice ao l.length c] 99)).drewN nq) := below_drewN (Below.refl _ _) nq
  generalize hq : l.length / n = q at *
  generalize hr : l.length % n = r at *
  go_loopw [34, 8, 9] (fun i v s wr => ∃ k : Nat, i = .int .i64 k ∧ k ≤ n ∧ s = .int .i64 (partAt l.length n k : Nat) ∧ PartsAt (w.heap.size + 1) v (partOf l n) k wr ∧ Below (w.heap.size + 1) (w.alloc (.cells #[.slice ao l.length c] 99)) wr) (fun i _ _ _ => n - (intOf i).toNat)
  case atStart => exact ⟨0, rfl, Nat.zero_le _, by rw [partAt_zero]; rfl, ⟨[], World.ownsRow_nil _ _ _ _, fun j hj => absurd hj (Nat.not_lt_zero j)⟩, hW⟩
  case round =>
    obtain ⟨k, rfl, hk, rfl, hP, hB⟩ := hrel
    have hk0 : (0 : Int) ≤ (k : Int) := Int.natCast_nonneg _
    have p0 : wr.cell? ⟨w.heap.size, 0, none⟩ = some (.slice ao l.length c) := (cell_below hB (by omega) 0).trans (by simp)
    by_cases hkn : k < n
    · have hk1 : (k : Int) < (n : Int) := by omega
      obtain ⟨e1, e2⟩ := HAT.out k hkn
      obtain ⟨vs, hv1, hv2⟩ := hP
      have HV := Lib.hid hv2
      have hbz : Below w.heap.size w wr := ((Below.refl w.heap.size w).alloc (Nat.le_refl _) _).trans (hB.mono (by omega))
      have hSr := Lib.hid (HS.out.kept hbz (Nat.le_refl _))
      obtain ⟨ao', c', e', hs0, -, -, hcn⟩ := hSr.out
      simp only [Value.slice.injEq] at e'
      obtain ⟨rfl, -, rfl⟩ := e'
      obtain ⟨A, hA1, hA2⟩ := partE_mid ao l.length c (partAt l.length n k) (partAt l.length n (k + 1)) l wr hs0 rfl hc1 hc2 (by omega) e2 hcn
      have hpl' := hpl.out k hkn
      have hdef : (l.drop (partAt l.length n k)).take (partAt l.length n (k + 1) - partAt l.length n k) = partOf l n k := by rw [partOf, List.drop_take]
      rw [hdef] at hA2
      have hAl : (partOf l n k).length ≤ 1000000 := by rw [hpl']; split <;> omega
      obtain ⟨d, hd⟩ : ∃ d, partAt l.length n (k + 1) - partAt l.length n k = d := ⟨_, rfl⟩
      rw [hd] at hA1 hA2
      clear hdef hpl' hd
      by_cases hkr : k < r
      · rw [if_pos hkr] at e1
        have hkr1 : (k : Int) < (r : Int) := by omega
        have hto : ((partAt l.length n (k + 1) : Nat) : Int) = (partAt l.length n k : Nat) + (q : Int) + 1 := by omega
        rw [hto] at hA1
        have hto' := Lib.hid hto
        have hw1 : IntKind.i64.wrap (((partAt l.length n k : Nat) : Int) + (q : Int)) = ((partAt l.length n k : Nat) : Int) + (q : Int) := IntWalk.i64_in _ (by omega)
        have hw2 : IntKind.i64.wrap (((partAt l.length n k : Nat) : Int) + (q : Int) + 1) = ((partAt l.length n k : Nat) : Int) + (q : Int) + 1 := IntWalk.i64_in _ (by omega)
        clear hto e1
        obtain ⟨a0, c0, e0⟩ := own_form hv1
        subst e0
        have hAt := Lib.hid hA2
        clear hA2 hs0 hv2
        go_wp2_with (first
          | (go_at_call 127; go_must (refine (cloneE _ (partOf l n k) _ hAt.out hAl).mono ?_; rintro e w2 ⟨⟨v2, rfl, hown2⟩, hB2⟩; obtain ⟨a2, c2, e2⟩ := own_form hown2; subst e2))
          | (at_builtin; go_must (refine wpList_append_own_at _ rfl _ _ 190 rfl (w.heap.size + 1) 99 i0 (.agg #[.slice none 0 0]) 1 24 Tryz.underlying190 hi hz0 hz1 hzb rfl (by decide) _ k vs rfl ((own_below hv1 hB2).alloc _) ⟨w2.heap.size, 0, none⟩ 1 1 [.slice a2 (partOf l n k).length c2] rfl rfl (cell_one_new _ _ _) (by simp [Value.oneCell']) (by unfold maxLen; omega) (by omega) (by have := hB2.size; have := hB.size; simp at this ⊢; omega) ?_; intro v' w3 hown' hgrow hnil hat)))
        have hP3 := parts_put hv1 HV.out hB2 rfl hown2 hown' hgrow
        have hB3 := below_grown ((hB.trans (hB2.mono (by have := hB.size; simp at this; omega))).alloc (by have := hB2.size; have := hB.size; simp at this ⊢; omega) (.cells #[.slice a2 (partOf l n k).length c2] 99)) hgrow (fun j e => ((own_below hv1 hB2).lt j e).1) (by have := hB2.size; have := hB.size; simp at this ⊢; omega)
        go_roundw
        (case rel => exact (⟨k + 1, by go_num, by omega, by rw [hto'.out], hP3, hB3⟩))
        (case measure => first | (simp [intOf]; done) | (simp [intOf]; omega))
      · rw [if_neg hkr] at e1
        have hkr1 : ¬ (k : Int) < (r : Int) := by omega
        have hto : ((partAt l.length n (k + 1) : Nat) : Int) = (partAt l.length n k : Nat) + (q : Int) := by omega
        rw [hto] at hA1
        have hto' := Lib.hid hto
        have hw1 : IntKind.i64.wrap (((partAt l.length n k : Nat) : Int) + (q : Int)) = ((partAt l.length n k : Nat) : Int) + (q : Int) := IntWalk.i64_in _ (by omega)
        clear hto e1
        obtain ⟨a0, c0, e0⟩ := own_form hv1
        subst e0
        have hAt := Lib.hid hA2
        clear hA2 hs0 hv2
        go_wp2_with (first
          | (go_at_call 127; go_must (refine (cloneE _ (partOf l n k) _ hAt.out hAl).mono ?_; rintro e w2 ⟨⟨v2, rfl, hown2⟩, hB2⟩; obtain ⟨a2, c2, e2⟩ := own_form hown2; subst e2))
          | (at_builtin; go_must (refine wpList_append_own_at _ rfl _ _ 190 rfl (w.heap.size + 1) 99 i0 (.agg #[.slice none 0 0]) 1 24 Tryz.underlying190 hi hz0 hz1 hzb rfl (by decide) _ k vs rfl ((own_below hv1 hB2).alloc _) ⟨w2.heap.size, 0, none⟩ 1 1 [.slice a2 (partOf l n k).length c2] rfl rfl (cell_one_new _ _ _) (by simp [Value.oneCell']) (by unfold maxLen; omega) (by omega) (by have := hB2.size; have := hB.size; simp at this ⊢; omega) ?_; intro v' w3 hown' hgrow hnil hat)))
        have hP3 := parts_put hv1 HV.out hB2 rfl hown2 hown' hgrow
        have hB3 := below_grown ((hB.trans (hB2.mono (by have := hB.size; simp at this; omega))).alloc (by have := hB2.size; have := hB.size; simp at this ⊢; omega) (.cells #[.slice a2 (partOf l n k).length c2] 99)) hgrow (fun j e => ((own_below hv1 hB2).lt j e).1) (by have := hB2.size; have := hB.size; simp at this ⊢; omega)
        go_roundw
        (case rel => exact (⟨k + 1, by go_num, by omega, by rw [hto'.out], hP3, hB3⟩))
        (case measure => first | (simp [intOf]; done) | (simp [intOf]; omega))
    · obtain rfl : k = n := by omega
      obtain ⟨vs, hv1, hv2⟩ := hP
      obtain ⟨a3, c3, e3⟩ := own_form hv1
      subst e3
      go_wp2_with fail
      go_ret
      exact ⟨⟨_, rfl, vs, own_base hv1 (by omega), hv2⟩, ((Below.refl w.heap.size w).alloc (Nat.le_refl _) _).trans (hB.mono (by omega))⟩

end Go.Proofs.YtafciefjlkdecaaGreat

namespace Go.Proofs.YtafciefjlkdecaaGreat
open Go.RowKit

def valV : Option (List UInt8) → Value
  | none => .tuple #[.string (S []), .bool false]
  | some v => .tuple #[.string (S v), .bool true]

theorem SlAt.cells2 {w : World} {ao : Option Addr} {l : List Ent} (hs : SlAt Ent.cells 2 w ao l) (i : Nat) (hi : i < l.length) :
    ∃ b off, ao = some ⟨b, off, none⟩ ∧ b < w.heap.size ∧ w.cell? ⟨b, off + i * 2, none⟩ = some (.string (S l[i].key)) ∧ w.cell? ⟨b, off + i * 2 + 1, none⟩ = some (.string (S l[i].val)) := by
  obtain ⟨b, off, rfl, hb, hc⟩ := hs.at (by omega)
  obtain ⟨h0, h1⟩ := entCells hc i hi
  exact ⟨b, off, rfl, hb, h0, h1⟩

set_option maxRecDepth 100000 in
set_option maxHeartbeats 2000000 in
theorem getE_none (v : Value) (l : List Ent) (k : List UInt8) (w : World) (hv : BoxE w v l) (hl : l.length ≤ 100000) (hr : Rising Ent.key l) (hno : hasKey Ent.key l k = false) :
    Calls Tryz.prog 51 #[v, .string (S k)] w fun e w' => e = .returned (valV none) ∧ Below w.heap.size w w' := by
  have hfind := fun w hv => findE v l k w hv (by omega) hr
  rw [hno] at hfind
  obtain ⟨s, rfl, hs⟩ := hv
  have HF := Lib.hid hfind
  have HS := Lib.hid hs
  obtain ⟨ao, c, rfl, hs0, hc1, hc2, hn⟩ := hs
  clear hfind hn hs0 hr
  go_enter Tryz.func51, Tryz.ntmps51
  go_wp2_with fail
  refine (thread (HF.out _ ⟨_, rfl, HS.out.kept (by go_grown) (Nat.le_refl _)⟩) w.heap.size w (by go_grown) (by go_grown)).mono ?_
  rintro e w1 ⟨rfl, hB1, -, -, -, -⟩
  go_wp2_with fail
  exact bodyPost_ret (v := valV none) (by simp [results, Tryz.results51, go_sem, valV]; rfl) rfl ⟨rfl, hB1⟩

set_option maxRecDepth 100000 in
set_option maxHeartbeats 2000000 in
theorem getE_some (v : Value) (l : List Ent) (i : Nat) (hi : i < l.length) (u : Ent) (hu : l[i] = u) (k : List UInt8) (w : World) (hv : BoxE w v l) (hl : l.length ≤ 100000) (hr : Rising Ent.key l) (hb : below Ent.key l k = i) (hno : hasKey Ent.key l k = true) :
    Calls Tryz.prog 51 #[v, .string (S k)] w fun e w' => e = .returned (valV (some u.val)) ∧ Below w.heap.size w w' := by
  have hfind := fun w hv => findE v l k w hv (by omega) hr
  rw [hno, hb] at hfind
  obtain ⟨s, rfl, hs⟩ := hv
  have HF := Lib.hid hfind
  have HS := Lib.hid hs
  obtain ⟨ao, c, rfl, hs0, hc1, hc2, hn⟩ := hs
  clear hfind hn hr
  have hcl := SlAt.cells2 hs0 i hi
  obtain ⟨b, off, rfl, hbl, t0, t1⟩ := hcl
  clear hs0
  rw [hu] at t0 t1
  go_enter Tryz.func51, Tryz.ntmps51
  go_wp2_with fail
  refine (thread (HF.out _ ⟨_, rfl, HS.out.kept (by go_grown) (Nat.le_refl _)⟩) w.heap.size w (by go_grown) (by go_grown)).mono ?_
  rintro e w1 ⟨rfl, hB1, hk1, hf1, hs1, hz1⟩
  have p0 := (hk1 w.heap.size 0 (by first | (simp; done) | (simp; omega))).trans (by simp [go_sem]; rfl)
  have q0 := (cell_below hB1 hbl _).trans t0
  have q1 := (cell_below hB1 hbl _).trans t1
  clear hk1 hf1 hs1
  have hi0 : (0 : Int) ≤ (i : Int) := by omega
  have hi1 : (i : Int) < (l.length : Int) := by omega
  clear hb hno t0 t1 hu
  go_wp2_with fail
  exact bodyPost_ret (v := valV (some u.val)) (by simp [results, Tryz.results51, go_sem, valV]) rfl ⟨rfl, hB1⟩

theorem getE_any (v : Value) (l : List Ent) (k : List UInt8) (w : World) (hv : BoxE w v l) (hl : l.length ≤ 100000) (hr : Rising Ent.key l) :
    Calls Tryz.prog 51 #[v, .string (S k)] w fun e w' => e = .returned (valV (lookE l k)) ∧ Below w.heap.size w w' := by
  cases hh : hasKey Ent.key l k with
  | false => rw [lookE_none hh]; exact getE_none v l k w hv hl hr hh
  | true =>
    obtain ⟨hlt, hkey⟩ := (hr.found k).1 hh
    have e : lookE l k = some (l[below Ent.key l k]'hlt).val := by
      have := lookE_at hr _ hlt
      rwa [hkey] at this
    rw [e]
    exact getE_some v l _ hlt _ rfl k w hv hl hr rfl hh

end Go.Proofs.YtafciefjlkdecaaGreat

namespace Go.Proofs.YtafciefjlkdecaaGreat
open Go.RowKit
attribute [local go_sem ↓] Go.wp_at_zero Go.wp_at_succ

set_option maxRecDepth 100000 in
set_option maxHeartbeats 4000000 in
theorem leafOn_any (v : Value) (l : List Ent) (s : Value) (us : List Upd) (w : World) (hv : BoxE w v l) (hl : l.length ≤ 10000) (hr : Rising Ent.key l) (hf : FineE l) (hs : SlU w s us) (hu : ∀ u ∈ us, u.Wf) (hul : us.length ≤ 10000) :
    Calls Tryz.prog 66 #[v, s] w fun e w' => (∃ a c, e = .returned (.agg #[.slice a (onAll l us).length c]) ∧ BoxE w' (.agg #[.slice a (onAll l us).length c]) (onAll l us)) ∧ Below w.heap.size w w' := by
  obtain ⟨s0, rfl, hs0⟩ := hv
  have HL := Lib.hid (fun w (h : SlE w s0 l) => listE (.agg #[s0]) l w ⟨s0, rfl, h⟩ (by omega))
  have HS0 := Lib.hid hs0
  have HS := Lib.hid hs
  obtain ⟨ua, uc, rfl, -, hc1, hc2, hcn⟩ := hs
  obtain ⟨sa, sc, rfl, -, hd1, hd2, hdn⟩ := hs0
  clear hcn hdn
  go_enter Tryz.func66, Tryz.ntmps66
  go_wp2_with fail
  refine (thread (HL.out _ (HS0.out.kept (by go_grown) (Nat.le_refl _))) w.heap.size w (by go_grown) (by go_grown)).mono ?_
  rintro e w1 ⟨⟨v', rfl, hown⟩, hB1, hk1, hf1, hs1, hz1⟩
  obtain ⟨a1, c1, e1⟩ := own_form hown
  subst e1
  have hs1' : w.heap.size + 1 < w1.heap.size := by simp at hs1; omega
  have hown := own_base (B' := w.heap.size + 2) hown (by simp)
  have hL0 : LeafAt (w.heap.size + 2) w1.heap.size l (w1.alloc (.cells #[.slice a1 l.length c1] 99)) := ⟨⟨a1, c1, by simp, hown.alloc _, fun e => by have := (hown.lt _ e).2; omega⟩, by simp, by simp, by omega⟩
  have r5 : w1.cell? ⟨w.heap.size + 1, 0, none⟩ = some (.slice none 0 0) := (hk1 (w.heap.size + 1) 0 (by simp)).trans (by simp)
  have r6 : w1.frozen? ⟨w.heap.size + 1, 0, none⟩ = false := (hf1 (w.heap.size + 1) 0 (by simp)).trans (by simp)
  have HB1 := Lib.hid hB1
  clear hk1 hf1 hs1 hown hB1
  go_wp2_with fail
  go_loopw [13] (fun i wr => ∃ k : Nat, i = .int .i64 k ∧ k ≤ us.length ∧ LeafAt (w.heap.size + 2) w1.heap.size (onAll l (us.take k)) wr ∧ Below (w.heap.size + 2) w1 wr) (fun i _ => us.length - (intOf i).toNat)
  case atStart => exact ⟨0, rfl, Nat.zero_le _, hL0, by go_grown⟩
  case round =>
    obtain ⟨k, rfl, hk, hL, hB⟩ := hrel
    have hk0 : (0 : Int) ≤ (k : Int) := Int.natCast_nonneg _
    obtain ⟨o1, o2, o3⟩ := onAll_ok l hr hf (us.take k)
    have hlen := Lib.hid (show (onAll l (us.take k)).length ≤ 100000 by rw [List.length_take] at o3; omega)
    clear o3
    by_cases hku : k < us.length
    · have hk1 : (k : Int) < (us.length : Int) := by omega
      obtain ⟨b, off, rfl, hb, t0, t1, t2, t3⟩ := SlU.cells4 (HS.out.kept (HB1.out.trans (hB.mono (by omega))) (Nat.le_refl _)) k hku
      have hsn := Lib.hid (List.take_succ_eq_append_getElem hku)
      obtain ⟨hw1, hw2⟩ := hu _ (List.getElem_mem hku)
      generalize us[k] = u at *
      have hon := Lib.hid (leaf_on (w.heap.size + 2) w1.heap.size _ u.kind u.key u.val u.delta (wr.alloc (.cells #[.int .u8 u.kind, .string (S u.key), .string (S u.val), .int .u64 u.delta] 39)) (hL.on (by go_grown)) hlen.out o1 (fun e he => by have := (o2 e he).2.2; omega) hw1 hw2)
      have hz := hL.le
      clear hL
      go_wp2_with fail
      refine (hon.out).mono ?_
      rintro e w2 ⟨rfl, hL2, hB2⟩
      have hB3 := hB.trans ((Below.refl _ _).alloc hz _ |>.trans hB2)
      go_wp2_with fail
      go_roundw
      (case rel => exact (⟨k + 1, by go_num, by omega, by rw [hsn.out, onAll_snoc]; exact hL2, hB3⟩))
      (case measure => first | (simp [intOf]; done) | (simp [intOf]; omega))
    · obtain rfl : k = us.length := by omega
      rw [List.take_length] at hL
      obtain ⟨⟨a, c, h1, h2, h3⟩, h4, h5, h6⟩ := hL
      have r7 := (cell_below hB (show w.heap.size + 1 < w.heap.size + 2 by omega) 0).trans r5
      have r8 : wr.frozen? ⟨w.heap.size + 1, 0, none⟩ = false := (World.frozen?_of_block (hB.block (w.heap.size + 1) (by omega))).trans r6
      have hne : (Value.slice a (onAll l us).length c).ownBlock ≠ some (w.heap.size + 1) := fun e => by have := (h2.lt _ e).1; omega
      have hbox := fun u => BoxE.of_own (ownsRow_setCell_other (a := ⟨w.heap.size + 1, 0, none⟩) h2 hne u)
      have hlow := (HB1.out.trans (hB.mono (by omega))).setCell (p := ⟨w.heap.size + 1, 0, none⟩) (by show w.heap.size ≤ w.heap.size + 1; omega) (.slice a (onAll l us).length c)
      have Hbox := Lib.hid hbox
      have Hlow := Lib.hid hlow
      clear hbox hlow h2 h3 h4 hlen o1 o2
      go_wp2_with fail
      exact bodyPost_ret (v := .agg #[.slice a (onAll l us).length c]) (by simp [results, Tryz.results66, go_sem, r7]) rfl ⟨⟨a, c, rfl, Hbox.out _⟩, Hlow.out⟩

end Go.Proofs.YtafciefjlkdecaaGreat

namespace Go.Proofs.YtafciefjlkdecaaGreat
open Go.RowKit
attribute [local go_sem ↓] Go.wp_at_zero Go.wp_at_succ

/-- May an entry be? -/
def okB (e : Ent) : Bool := !e.key.isEmpty && (decide (e.key.length ≤ 16) && decide (e.val.length ≤ 32))
theorem okB_iff (e : Ent) : okB e = true ↔ 1 ≤ e.key.length ∧ e.key.length ≤ 16 ∧ e.val.length ≤ 32 := by
  unfold okB
  cases h : e.key <;> simp
set_option maxRecDepth 100000 in
set_option maxHeartbeats 2000000 in
theorem rightOne (k v : List UInt8) (w : World) :
    Calls Tryz.prog 150 #[.agg #[.string (S k), .string (S v)]] w fun e w' => e = .returned (.bool (okB ⟨k, v⟩)) ∧ Below w.heap.size w w' := by
  by_cases h0 : k = []
  · have he : k.isEmpty = true := by rw [h0]; rfl
    have H := Lib.hid (show okB ⟨k, v⟩ = false by simp [okB, he])
    go_enter Tryz.func150, Tryz.ntmps150
    go_wp2
    all_goals (go_ret; exact ⟨ret_bool (by rw [H.out]), by go_grown⟩)
  · have he : k.isEmpty = false := by cases hk : k <;> simp [hk] at h0 ⊢
    by_cases h1 : k.length ≤ 16
    · have H := Lib.hid (show okB ⟨k, v⟩ = decide (v.length ≤ 32) by simp [okB, he, h1])
      go_enter Tryz.func150, Tryz.ntmps150
      go_wp2
      all_goals (go_ret; exact ⟨ret_bool (by rw [H.out, Bool.eq_iff_iff]; simp; omega), by go_grown⟩)
    · have H := Lib.hid (show okB ⟨k, v⟩ = false by simp [okB, h1])
      go_enter Tryz.func150, Tryz.ntmps150
      go_wp2
      all_goals (go_ret; exact ⟨ret_bool (by rw [H.out]), by go_grown⟩)

/-- May entries be a leaf's? -/
def RightE (l : List Ent) : Prop := FineE l ∧ Rising Ent.key l
theorem right_nil : RightE [] := ⟨fun e he => by simp at he, List.Pairwise.nil⟩
theorem right_not {l : List Ent} {j : Nat} (h : ¬ RightE (l.take j)) : ¬ RightE l := fun hr =>
  h ⟨fun e he => hr.1 e (List.mem_of_mem_take he), hr.2.sublist (List.take_sublist j l)⟩
theorem right_step (l : List Ent) (j : Nat) (hj : j < l.length) (h : RightE (l.take j)) :
    RightE (l.take (j + 1)) ↔ okB l[j] = true ∧ (∀ h0 : 0 < j, bl (l[j - 1]'(by omega)).key l[j].key = true) := by
  rw [List.take_succ_eq_append_getElem hj, okB_iff]
  constructor
  · rintro ⟨h1, h2⟩
    refine ⟨h1 _ (List.mem_append_right _ (List.mem_singleton.2 rfl)), fun h0 => ?_⟩
    have h3 := (List.pairwise_append.1 h2).2.2
    refine h3 (l[j - 1]'(by omega)) ?_ l[j] (List.mem_singleton.2 rfl)
    rw [List.mem_take_iff_getElem]
    exact ⟨j - 1, by omega, rfl⟩
  · rintro ⟨h1, h2⟩
    refine ⟨fun e he => ?_, List.pairwise_append.2 ⟨h.2, by simp, fun a ha b hb => ?_⟩⟩
    · rcases List.mem_append.1 he with he | he
      · exact h.1 e he
      · rw [List.mem_singleton] at he; rw [he]; exact h1
    · rw [List.mem_singleton] at hb
      subst hb
      obtain ⟨i, hi, rfl⟩ := List.mem_take_iff_getElem.1 ha
      have h3 := h2 (by omega)
      by_cases e : i = j - 1
      · subst e; exact h3
      · have h4 := Rising.lt h.2 (show i < j - 1 by omega) (by rw [List.length_take]; omega)
        simp only [List.getElem_take] at h4
        exact bl_trans h4 h3

end Go.Proofs.YtafciefjlkdecaaGreat

namespace Go.Proofs.YtafciefjlkdecaaGreat
open Go.RowKit

/-- The entry at the head of bytes, and what is left. -/
def stepE (s : List UInt8) : Option (Ent × List UInt8) :=
  if (splitL s).2.2 && (splitL (splitL s).2.1).2.2 then some (⟨(splitL s).1, (splitL (splitL s).2.1).1⟩, (splitL (splitL s).2.1).2.1) else none
theorem stepE_len {s r : List UInt8} {e : Ent} (h : stepE s = some (e, r)) : r.length + 1 < s.length + 1 := by
  unfold stepE at h
  split at h
  · rename_i hc
    simp only [Bool.and_eq_true] at hc
    simp only [Option.some.injEq, Prod.mk.injEq] at h
    have h1 := (splitL_len s).2 hc.1
    have h2 := (splitL_len (splitL s).2.1).1
    rw [h.2] at h2
    omega
  · simp at h
def rawN : Nat → List UInt8 → Option (List Ent)
  | 0, _ => some []
  | n + 1, s => if s = [] then some [] else match stepE s with
    | none => none
    | some (e, r) => (rawN n r).map fun l => e :: l
theorem rawN_same : ∀ (n m : Nat) (s : List UInt8), s.length ≤ n → s.length ≤ m → rawN n s = rawN m s
  | 0, 0, _, _, _ => rfl
  | 0, m + 1, s, h, _ => by
    have : s = [] := List.eq_nil_of_length_eq_zero (by omega)
    simp [rawN, this]
  | n + 1, 0, s, _, h => by
    have : s = [] := List.eq_nil_of_length_eq_zero (by omega)
    simp [rawN, this]
  | n + 1, m + 1, s, h, k => by
    unfold rawN
    by_cases h0 : s = []
    · simp [h0]
    · rw [if_neg h0, if_neg h0]
      cases hs : stepE s with
      | none => rfl
      | some p =>
        obtain ⟨e, r⟩ := p
        have := stepE_len hs
        simp only
        rw [rawN_same n m r (by omega) (by omega)]
def rawE (s : List UInt8) : Option (List Ent) := rawN s.length s
theorem rawE_nil : rawE [] = some [] := rfl
theorem rawE_none {s : List UInt8} (h0 : s ≠ []) (h : stepE s = none) : rawE s = none := by
  unfold rawE
  cases hl : s.length with
  | zero => exact absurd (List.eq_nil_of_length_eq_zero hl) h0
  | succ n => simp [rawN, h0, h]
theorem rawE_some {s r : List UInt8} {e : Ent} (h0 : s ≠ []) (h : stepE s = some (e, r)) : rawE s = (rawE r).map fun l => e :: l := by
  have hlt := stepE_len h
  unfold rawE
  cases hl : s.length with
  | zero => exact absurd (List.eq_nil_of_length_eq_zero hl) h0
  | succ n =>
    conv => lhs; unfold rawN
    rw [if_neg h0, h]
    simp only
    rw [rawN_same n r.length r (by omega) (Nat.le_refl _)]
theorem raw_more {s0 s r : List UInt8} {acc : List Ent} {e : Ent} (h : rawE s0 = (rawE s).map fun l => acc ++ l) (h0 : s ≠ []) (k : stepE s = some (e, r)) : rawE s0 = (rawE r).map fun l => (acc ++ [e]) ++ l := by
  rw [h, rawE_some h0 k]
  cases rawE r <;> simp
theorem raw_stop {s0 s : List UInt8} {acc : List Ent} (h : rawE s0 = (rawE s).map fun l => acc ++ l) (h0 : s ≠ []) (k : stepE s = none) : rawE s0 = none := by
  rw [h, rawE_none h0 k]; rfl
theorem raw_end {s0 : List UInt8} {acc : List Ent} (h : rawE s0 = (rawE []).map fun l => acc ++ l) : rawE s0 = some acc := by
  rw [h, rawE_nil]; simp

/-- May entries be a leaf's? -/
def rightB (l : List Ent) : Bool := l.all okB && decide (l.Pairwise fun a b => bl a.key b.key = true)
theorem rightB_iff (l : List Ent) : rightB l = true ↔ RightE l := by
  unfold rightB RightE FineE Rising
  rw [Bool.and_eq_true, List.all_eq_true, decide_eq_true_iff]
  constructor
  · rintro ⟨h1, h2⟩; exact ⟨fun e he => (okB_iff e).1 (h1 e he), h2⟩
  · rintro ⟨h1, h2⟩; exact ⟨fun e he => (okB_iff e).2 (h1 e he), h2⟩
/-- The leaf of bytes: its entries, and the error's number. -/
def parseE (s : List UInt8) : List Ent × Nat :=
  match rawE s with
  | none => ([], 4)
  | some l => if rightB l then (l, 0) else ([], 4)
theorem parseE_none {s : List UInt8} (h : rawE s = none) : parseE s = ([], 4) := by simp [parseE, h]
theorem parseE_bad {s : List UInt8} {l : List Ent} (h : rawE s = some l) (k : rightB l = false) : parseE s = ([], 4) := by simp [parseE, h, k]
theorem parseE_ok {s : List UInt8} {l : List Ent} (h : rawE s = some l) (k : rightB l = true) : parseE s = (l, 0) := by simp [parseE, h, k]
theorem parseE_right (s : List UInt8) : RightE (parseE s).1 := by
  unfold parseE
  split
  · exact right_nil
  · split
    · rename_i h; exact (rightB_iff _).1 h
    · exact right_nil
theorem rawN_len : ∀ (n : Nat) (s : List UInt8) (l : List Ent), rawN n s = some l → l.length ≤ n
  | 0, _, l, h => by simp [rawN] at h; simp [h]
  | n + 1, s, l, h => by
    unfold rawN at h
    split at h
    · simp only [Option.some.injEq] at h; rw [← h]; exact Nat.zero_le _
    · split at h
      · simp at h
      · rename_i e r _
        cases hr : rawN n r with
        | none => rw [hr] at h; simp at h
        | some t =>
          rw [hr] at h
          simp at h
          have := rawN_len n r t hr
          rw [← h]; simp; omega
theorem parseE_len (s : List UInt8) : (parseE s).1.length ≤ s.length := by
  unfold parseE
  split
  · simp
  · rename_i l h
    split
    · exact rawN_len _ _ _ h
    · simp

end Go.Proofs.YtafciefjlkdecaaGreat

namespace Go.Proofs.YtafciefjlkdecaaGreat
open Go.RowKit
attribute [local go_sem ↓] Go.wp_at_zero Go.wp_at_succ

set_option maxRecDepth 100000 in
set_option maxHeartbeats 4000000 in
theorem refRight_any (ao : Option Addr) (c : Nat) (l : List Ent) (bo : Bool) (hbo : bo = true ↔ RightE l) (w : World) (hl : l.length ≤ 1000000) (hs : SlAt Ent.cells 2 w ao l) :
    Calls Tryz.prog 61 #[.slice ao l.length c] w fun e w' => e = .returned (.bool bo) ∧ Below w.heap.size w w' := by
  have HBO := Lib.hid hbo
  have HS := Lib.hid hs
  clear hbo hs
  go_enter Tryz.func61, Tryz.ntmps61
  go_wp2_with fail
  go_loopw [3] (fun i wr => ∃ j : Nat, i = .int .i64 j ∧ j ≤ l.length ∧ Hid (RightE (l.take j)) ∧ Below w.heap.size w wr) (fun i _ => l.length - (intOf i).toNat)
  case atStart => exact ⟨0, rfl, Nat.zero_le _, Lib.hid right_nil, Below.refl _ _⟩
  case round =>
    obtain ⟨j, rfl, hj, hR, hB⟩ := hrel
    have hj0 : (0 : Int) ≤ (j : Int) := Int.natCast_nonneg _
    by_cases hjl : j < l.length
    · have hj1 : (j : Int) < (l.length : Int) := by omega
      have hst := Lib.hid (right_step l j hjl hR.out)
      have hno : Hid (¬ RightE (l.take (j + 1)) → bo = false) := Lib.hid fun h => by
        cases hbb : bo with
        | false => rfl
        | true => exact absurd (HBO.out.1 hbb) (right_not h)
      obtain ⟨b, off, rfl, hb, t0, t1⟩ := SlAt.cells2 HS.out j hjl
      have q0 := (cell_below hB hb _).trans t0
      have q1 := (cell_below hB hb _).trans t1
      clear t0 t1
      cases hok : okB l[j] with
      | false =>
        have hbf := Lib.hid (hno.out (fun h => by have := (hst.out.1 h).1; rw [hok] at this; exact absurd this (by simp)))
        have hnk : ¬ (1 ≤ l[j].key.length ∧ l[j].key.length ≤ 16 ∧ l[j].val.length ≤ 32) := fun h => by have := (okB_iff l[j]).2 h; rw [hok] at this; exact absurd this (by simp)
        clear hst hno hok
        generalize l[j] = u at *
        by_cases h1 : u.key.length < 1
        · clear hnk
          go_wp2_with fail
          exact bodyPost_ret (v := .bool false) (by simp [results, Tryz.results61, go_sem]) rfl ⟨by rw [hbf.out], hB⟩
        · by_cases h2 : 16 < u.key.length
          · clear hnk
            go_wp2_with fail
            exact bodyPost_ret (v := .bool false) (by simp [results, Tryz.results61, go_sem]) rfl ⟨by rw [hbf.out], hB⟩
          · have h3 : 32 < u.val.length := by omega
            clear hnk
            go_wp2_with fail
            exact bodyPost_ret (v := .bool false) (by simp [results, Tryz.results61, go_sem]) rfl ⟨by rw [hbf.out], hB⟩
      | true =>
        obtain ⟨k1, k2, k3⟩ := (okB_iff l[j]).1 hok
        have g1 : ¬ l[j].key.length < 1 := by omega
        have g2 : ¬ 16 < l[j].key.length := by omega
        have g3 : ¬ 32 < l[j].val.length := by omega
        rcases j with _ | q
        · have hR2 := Lib.hid (hst.out.2 ⟨hok, fun h => absurd h (by omega)⟩)
          clear hst hno hok
          generalize l[0] = u at *
          rw [show ((0 : Nat) : Int) = 0 from rfl] at hj1
          rw [Nat.zero_mul, Nat.add_zero] at q0 q1
          have hd : decide ((0 : Int) < 0) = false := rfl
          go_wp2_with fail
          go_quiet (fail)
          go_wp2_with fail
          exact ⟨⟨1, by go_num, by omega, hR2, below_drewN hB _⟩, by simp [intOf]; omega⟩
        · obtain ⟨b', off', e', hb', t0', t1'⟩ := SlAt.cells2 HS.out q (by omega)
          simp only [Option.some.injEq, Addr.mk.injEq] at e'
          obtain ⟨rfl, rfl, -⟩ := e'
          have q2 := (cell_below hB hb _).trans t0'
          have hq0 : (0 : Int) ≤ (q : Int) := Int.natCast_nonneg _
          have hq1 : (q : Int) < (l.length : Int) := by omega
          have hw1 : IntKind.i64.wrap ((q : Int) + 1 - 1) = (q : Int) := by rw [show (q : Int) + 1 - 1 = (q : Int) by omega]; exact IntWalk.i64_in _ (by omega)
          have hd : decide ((0 : Int) < (q : Int) + 1) = true := by rw [decide_eq_true_iff]; omega
          clear t0' t1'
          cases hlt : bl l[q].key l[q + 1].key with
          | true =>
            have hR2 := Lib.hid (hst.out.2 ⟨hok, fun h => hlt⟩)
            clear hst hno hok
            have hlt' : Op.bytesLess l[q].key l[q + 1].key = true := hlt
            clear hlt
            generalize l[q + 1] = u at *
            generalize l[q] = u' at *
            go_wp2_with fail
            go_quiet (fail)
            go_wp2_with fail
            exact ⟨⟨q + 2, by go_num, by omega, hR2, below_drewN hB _⟩, by simp [intOf]; omega⟩
          | false =>
            have hbf := Lib.hid (hno.out (fun h => by have this : bl l[q].key l[q + 1].key = true := (hst.out.1 h).2 (by omega); rw [hlt] at this; exact absurd this (by simp)))
            clear hst hno hok
            have hlt' : Op.bytesLess l[q].key l[q + 1].key = false := hlt
            clear hlt
            generalize l[q + 1] = u at *
            generalize l[q] = u' at *
            go_wp2_with fail
            go_quiet (fail)
            go_wp2_with fail
            exact bodyPost_ret (v := .bool false) (by simp [results, Tryz.results61, go_sem]) rfl ⟨by rw [hbf.out], below_drewN hB _⟩
    · obtain rfl : j = l.length := by omega
      have hbt := Lib.hid (HBO.out.2 (by have := hR.out; rwa [List.take_length] at this))
      go_wp2_with fail
      exact bodyPost_ret (v := .bool true) (by simp [results, Tryz.results61, go_sem]) rfl ⟨by rw [hbt.out], hB⟩

end Go.Proofs.YtafciefjlkdecaaGreat
