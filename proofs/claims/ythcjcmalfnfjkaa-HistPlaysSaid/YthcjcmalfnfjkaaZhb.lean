/-
  The walk of (*leaf.Leaf).on: what an update makes of a leaf in its box.
  Plain laws on a leaf's entries: what an update makes of them, told by what each key has.
  The walk of (leaf.Leaf).Get.
  The walks of the document's numbers: treenailref01.Get, treenailref14.On.
-/
import Derived.Test.YthcjcmalfnfjkaaZha
import Derived.Test.YthcjcmalfnfjkaaZa
import Derived.Deep.RegionHeld3
import Derived.Deep.DrawnRows
import Derived.BigQuiet
namespace Go.Proofs.Ythcjcmalfnfjkaa
open Go.RowKit

/-- The value of a key, or none. -/
def oldE (l : List Ent) (k : List UInt8) : List UInt8 := ((l[below Ent.key l k]?).map Ent.val).getD []
/-- What an update that may be makes of the value of its key. -/
def newE (l : List Ent) (u : Upd) : List UInt8 × Bool := if hasKey Ent.key l u.key then onL (oldE l u.key) true u else onL [] false u
/-- What an update makes of entries. -/
def onE (l : List Ent) (u : Upd) : List Ent :=
  if u.check ≠ 0 then l
  else if (newE l u).2 then (if hasKey Ent.key l u.key then l.set (below Ent.key l u.key) ⟨u.key, (newE l u).1⟩ else insE l (below Ent.key l u.key) ⟨u.key, (newE l u).1⟩)
  else if hasKey Ent.key l u.key then delE l (below Ent.key l u.key) else l

theorem cellsE_set : ∀ (l : List Ent) (i : Nat) (y : List UInt8) (hi : i < l.length), (cellsE l).set (i * 2 + 1) (.string (S y)) = cellsE (l.set i ⟨l[i].key, y⟩)
  | [], i, _, h => by simp at h
  | u :: l, 0, y, _ => by simp [cellsE, Ent.cells]
  | u :: l, i + 1, y, h => by
    have ih := cellsE_set l i y (by simpa using h)
    have e : ∀ (y : Ent) (m : List Ent), cellsE (y :: m) = .string (S y.key) :: .string (S y.val) :: cellsE m := fun y m => by simp [cellsE, Ent.cells]
    rw [List.getElem_cons_succ, List.set_cons_succ, e, e, ← ih, show (i + 1) * 2 + 1 = i * 2 + 1 + 1 + 1 by omega]
    simp only [List.set_cons_succ]

theorem insE_len (l : List Ent) (i : Nat) (x : Ent) (h : i ≤ l.length) : (insE l i x).length = l.length + 1 := by simp [insE]; omega
theorem delE_len (l : List Ent) (i : Nat) (h : i < l.length) : (delE l i).length = l.length - 1 := by simp [delE]; omega

end Go.Proofs.Ythcjcmalfnfjkaa

namespace Go.Proofs.Ythcjcmalfnfjkaa
open Go.RowKit

/-- The value of a key, if it is there. -/
def lookE (l : List Ent) (k : List UInt8) : Option (List UInt8) := (l.find? fun e => e.key == k).map Ent.val
/-- What an update makes of its key's value. -/
def actE (u : Upd) (o : Option (List UInt8)) : Option (List UInt8) :=
  if u.check ≠ 0 then o
  else
    let r := match o with
      | some v => onL v true u
      | none => onL [] false u
    if r.2 then some r.1 else none

theorem lookE_none {l : List Ent} {k : List UInt8} (h : hasKey Ent.key l k = false) : lookE l k = none := by
  unfold lookE
  rw [Option.map_eq_none_iff, List.find?_eq_none]
  intro e he hk
  have : hasKey Ent.key l k = true := hasKey_iff.2 ⟨e, he, by simpa using hk⟩
  rw [h] at this; exact absurd this (by simp)
theorem lookE_at {l : List Ent} (hr : Rising Ent.key l) (i : Nat) (hi : i < l.length) : lookE l l[i].key = some l[i].val := by
  unfold lookE
  rw [List.find?_eq_some_iff_getElem.2 ⟨by simp, i, hi, rfl, fun j hj => by simpa using bl_ne (hr.lt hj hi)⟩]
  rfl
theorem lookE_mem {l : List Ent} (hr : Rising Ent.key l) (e : Ent) (he : e ∈ l) : lookE l e.key = some e.val := by
  obtain ⟨i, hi, rfl⟩ := List.getElem_of_mem he
  exact lookE_at hr i hi
theorem mem_lookE {l : List Ent} {k v : List UInt8} (h : lookE l k = some v) : (⟨k, v⟩ : Ent) ∈ l := by
  unfold lookE at h
  rw [Option.map_eq_some_iff] at h
  obtain ⟨e, he, hv⟩ := h
  have h1 := List.find?_some he
  have h2 := List.mem_of_find?_eq_some he
  have : e = ⟨k, v⟩ := by cases e; simp at h1 hv; rw [h1, hv]
  rwa [this] at h2
/-- By rising keys, and of the same members: one. -/
theorem risingE_unique : ∀ (a b : List Ent), Rising Ent.key a → Rising Ent.key b → (∀ e, e ∈ a ↔ e ∈ b) → a = b
  | [], [], _, _, _ => rfl
  | [], y :: b, _, _, h => by have := (h y).2 (by simp); simp at this
  | x :: a, [], _, _, h => by have := (h x).1 (by simp); simp at this
  | x :: a, y :: b, ha, hb, h => by
    have hnx : ∀ e ∈ a, e.key ≠ x.key := fun e he k => bl_ne (ha.cons.1 e he) k.symm
    have hny : ∀ e ∈ b, e.key ≠ y.key := fun e he k => bl_ne (hb.cons.1 e he) k.symm
    have hxy : x = y := by
      rcases List.mem_cons.1 ((h x).1 (by simp)) with e | h1
      · exact e
      · rcases List.mem_cons.1 ((h y).2 (by simp)) with e | h2
        · exact e.symm
        · have k1 := ha.cons.1 y h2
          have k2 := hb.cons.1 x h1
          rw [bl_asymm k1] at k2
          exact absurd k2 (by simp)
    subst hxy
    rw [risingE_unique a b ha.cons.2 hb.cons.2 (fun e => ?_)]
    constructor
    · intro he
      rcases List.mem_cons.1 ((h e).1 (List.mem_cons_of_mem _ he)) with e' | h1
      · exact absurd (by rw [e']) (hnx e he)
      · exact h1
    · intro he
      rcases List.mem_cons.1 ((h e).2 (List.mem_cons_of_mem _ he)) with e' | h1
      · exact absurd (by rw [e']) (hny e he)
      · exact h1
theorem lookE_ext {a b : List Ent} (ha : Rising Ent.key a) (hb : Rising Ent.key b) (h : ∀ k, lookE a k = lookE b k) : a = b :=
  risingE_unique a b ha hb fun e => ⟨fun he => by have := lookE_mem ha e he; rw [h] at this; exact mem_lookE this, fun he => by have := lookE_mem hb e he; rw [← h] at this; exact mem_lookE this⟩

/-! ### the three things that an update may do -/
theorem insE_mem {l : List Ent} {i : Nat} {u x : Ent} : x ∈ insE l i u ↔ x = u ∨ x ∈ l := by
  unfold insE
  rw [List.mem_append, List.mem_cons]
  have : x ∈ l ↔ x ∈ l.take i ∨ x ∈ l.drop i := by rw [← List.mem_append, List.take_append_drop]
  rw [this]
  constructor
  · rintro (h | h | h)
    · exact Or.inr (Or.inl h)
    · exact Or.inl h
    · exact Or.inr (Or.inr h)
  · rintro (h | h | h)
    · exact Or.inr (Or.inl h)
    · exact Or.inl h
    · exact Or.inr (Or.inr h)
theorem hasKeyE_not {l : List Ent} {k : List UInt8} (hno : hasKey Ent.key l k = false) : ∀ x ∈ l, x.key ≠ k := fun x hx e => by
  have : hasKey Ent.key l k = true := hasKey_iff.2 ⟨x, hx, e⟩
  rw [hno] at this; exact absurd this (by simp)
theorem insE_rising {l : List Ent} (hr : Rising Ent.key l) (u : Ent) (hno : hasKey Ent.key l u.key = false) : Rising Ent.key (insE l (below Ent.key l u.key) u) := by
  have hne := hasKeyE_not hno
  unfold insE
  have h1 : ∀ a ∈ l.take (below Ent.key l u.key), bl a.key u.key = true := by
    intro a ha
    obtain ⟨i, hi, rfl⟩ := List.getElem_of_mem ha
    rw [List.length_take] at hi
    rw [List.getElem_take]
    exact (hr.below u.key i (by omega)).2 (by omega)
  have h2 : ∀ b ∈ l.drop (below Ent.key l u.key), bl u.key b.key = true := by
    intro b hb
    obtain ⟨i, hi, rfl⟩ := List.getElem_of_mem hb
    rw [List.length_drop] at hi
    rw [List.getElem_drop]
    have hb' : ¬ bl (l[below Ent.key l u.key + i]'(by omega)).key u.key = true := by
      rw [hr.below u.key _ (by omega)]; omega
    rcases bl_not (Bool.not_eq_true _ ▸ hb' : bl (l[below Ent.key l u.key + i]'(by omega)).key u.key = false) with e | e
    · exact absurd e.symm (hne _ (List.getElem_mem _))
    · exact e
  have h3 : Rising Ent.key (l.take (below Ent.key l u.key) ++ l.drop (below Ent.key l u.key)) := by rw [List.take_append_drop]; exact hr
  have h4 := List.pairwise_append.1 h3
  refine List.pairwise_append.2 ⟨h4.1, List.pairwise_cons.2 ⟨h2, h4.2.1⟩, fun a ha b hb => ?_⟩
  rcases List.mem_cons.1 hb with rfl | hb
  · exact h1 a ha
  · exact h4.2.2 a ha b hb
theorem delE_eq (l : List Ent) (i : Nat) : delE l i = l.eraseIdx i := by rw [delE, List.eraseIdx_eq_take_drop_succ]
theorem delE_sub (l : List Ent) (i : Nat) : (delE l i).Sublist l := by rw [delE_eq]; exact List.eraseIdx_sublist l i
theorem delE_rising {l : List Ent} (hr : Rising Ent.key l) (i : Nat) : Rising Ent.key (delE l i) := List.Pairwise.sublist (delE_sub l i) hr
theorem setE_rising {l : List Ent} (hr : Rising Ent.key l) (i : Nat) (hi : i < l.length) (y : List UInt8) : Rising Ent.key (l.set i ⟨l[i].key, y⟩) := by
  have e : ∀ m : List Ent, Rising Ent.key m ↔ (m.map Ent.key).Pairwise (fun a b => bl a b = true) := fun m => by unfold Rising; rw [List.pairwise_map]
  rw [e, List.map_set]
  have : (l.map Ent.key).set i l[i].key = l.map Ent.key := by
    apply List.ext_getElem (by simp)
    intro j h1 h2
    rw [List.getElem_set]
    split
    · rename_i e; subst e; simp
    · rfl
  rw [this, ← e]
  exact hr

/-- The lookup in a list by rising keys, by its members. -/
theorem lookE_iff {l : List Ent} (hr : Rising Ent.key l) (k v : List UInt8) : lookE l k = some v ↔ (⟨k, v⟩ : Ent) ∈ l := ⟨mem_lookE, fun h => lookE_mem hr _ h⟩
theorem lookE_by {l : List Ent} (hr : Rising Ent.key l) (k : List UInt8) (o : Option (List UInt8)) (h : ∀ v, (⟨k, v⟩ : Ent) ∈ l ↔ o = some v) : lookE l k = o := by
  cases hl : lookE l k with
  | some v => exact ((h v).1 ((lookE_iff hr k v).1 hl)).symm
  | none =>
    cases o with
    | none => rfl
    | some v => rw [(lookE_iff hr k v).2 ((h v).2 rfl)] at hl; exact hl.symm
theorem mem_delE {l : List Ent} (hr : Rising Ent.key l) (i : Nat) (hi : i < l.length) (e : Ent) : e ∈ delE l i ↔ e ∈ l ∧ e.key ≠ l[i].key := by
  constructor
  · intro h
    refine ⟨(delE_sub l i).subset h, fun hk => ?_⟩
    unfold delE at h
    rcases List.mem_append.1 h with h | h
    · obtain ⟨j, hj, rfl⟩ := List.getElem_of_mem h
      rw [List.length_take] at hj
      rw [List.getElem_take] at hk
      exact bl_ne (hr.lt (show j < i by omega) hi) hk
    · obtain ⟨j, hj, rfl⟩ := List.getElem_of_mem h
      rw [List.length_drop] at hj
      rw [List.getElem_drop] at hk
      exact bl_ne (hr.lt (show i < i + 1 + j by omega) (by omega)) hk.symm
  · rintro ⟨h, hk⟩
    obtain ⟨j, hj, rfl⟩ := List.getElem_of_mem h
    unfold delE
    rw [List.mem_append]
    have hji : j ≠ i := fun e => hk (by subst e; rfl)
    rcases Nat.lt_or_ge j i with h1 | h1
    · exact Or.inl (List.mem_take_iff_getElem.2 ⟨j, by omega, rfl⟩)
    · exact Or.inr (List.mem_drop_iff_getElem.2 ⟨j - (i + 1), by omega, by congr 1; omega⟩)
theorem mem_setE {l : List Ent} (hr : Rising Ent.key l) (i : Nat) (hi : i < l.length) (y : List UInt8) (e : Ent) : e ∈ l.set i ⟨l[i].key, y⟩ ↔ e = ⟨l[i].key, y⟩ ∨ (e ∈ l ∧ e.key ≠ l[i].key) := by
  rw [List.mem_iff_getElem]
  constructor
  · rintro ⟨j, hj, he⟩
    rw [List.length_set] at hj
    rw [List.getElem_set] at he
    split at he
    · exact Or.inl he.symm
    · rename_i hij
      refine Or.inr ⟨he ▸ List.getElem_mem hj, fun hk => ?_⟩
      rw [← he] at hk
      rcases Nat.lt_or_gt_of_ne hij with h1 | h1
      · exact bl_ne (hr.lt h1 hj) hk.symm
      · exact bl_ne (hr.lt h1 hi) hk
  · rintro (rfl | ⟨h, hk⟩)
    · exact ⟨i, by rw [List.length_set]; exact hi, by simp⟩
    · obtain ⟨j, hj, rfl⟩ := List.getElem_of_mem h
      refine ⟨j, by rw [List.length_set]; exact hj, ?_⟩
      rw [List.getElem_set, if_neg (fun e => hk (by subst e; rfl))]

/-! ### an update -/
theorem onE_cases (l : List Ent) (u : Upd) (hr : Rising Ent.key l) :
    (onE l u = l ∧ actE u (lookE l u.key) = lookE l u.key) ∨
    (hasKey Ent.key l u.key = false ∧ ∃ y, actE u (lookE l u.key) = some y ∧ onL [] false u = (y, true) ∧ u.check = 0 ∧ onE l u = insE l (below Ent.key l u.key) ⟨u.key, y⟩) ∨
    (∃ (i : Nat) (hi : i < l.length), l[i].key = u.key ∧ ∃ y, actE u (lookE l u.key) = some y ∧ onL l[i].val true u = (y, true) ∧ u.check = 0 ∧ onE l u = l.set i ⟨l[i].key, y⟩) ∨
    (∃ (i : Nat) (hi : i < l.length), l[i].key = u.key ∧ actE u (lookE l u.key) = none ∧ onE l u = delE l i) := by
  by_cases hc : u.check = 0
  · have hc' : ¬ u.check ≠ 0 := by simp [hc]
    unfold onE newE actE
    rw [if_neg hc', if_neg hc']
    cases hh : hasKey Ent.key l u.key with
    | false =>
      rw [lookE_none hh]
      cases hy : onL [] false u with
      | mk y is => cases is <;> simp [hc]
    | true =>
      obtain ⟨hlt, hkey⟩ := (hr.found u.key).1 hh
      have ho : oldE l u.key = (l[below Ent.key l u.key]'hlt).val := by unfold oldE; rw [List.getElem?_eq_getElem hlt]; rfl
      have hl := lookE_at hr _ hlt
      rw [hkey] at hl
      rw [hl, ho]
      generalize below Ent.key l u.key = i at *
      cases hy : onL (l[i]'hlt).val true u with
      | mk y is =>
        cases is with
        | true => exact Or.inr (Or.inr (Or.inl ⟨i, hlt, hkey, y, by simp [hy], hy, hc, by simp [hkey]⟩))
        | false => exact Or.inr (Or.inr (Or.inr ⟨i, hlt, hkey, by simp [hy], by simp⟩))
  · left
    unfold onE actE
    rw [if_pos hc, if_pos hc]
    exact ⟨rfl, rfl⟩
theorem onE_rising {l : List Ent} (hr : Rising Ent.key l) (u : Upd) : Rising Ent.key (onE l u) := by
  rcases onE_cases l u hr with ⟨e, -⟩ | ⟨hno, y, -, -, -, e⟩ | ⟨i, hi, -, y, -, -, -, e⟩ | ⟨i, hi, -, -, e⟩
  · rw [e]; exact hr
  · rw [e]; exact insE_rising hr ⟨u.key, y⟩ hno
  · rw [e]; exact setE_rising hr i hi y
  · rw [e]; exact delE_rising hr i
theorem onE_len {l : List Ent} (hr : Rising Ent.key l) (u : Upd) : (onE l u).length ≤ l.length + 1 := by
  rcases onE_cases l u hr with ⟨e, -⟩ | ⟨hno, y, -, -, -, e⟩ | ⟨i, hi, -, y, -, -, -, e⟩ | ⟨i, hi, -, -, e⟩
  · rw [e]; omega
  · rw [e, insE_len _ _ _ (below_le _ _)]; omega
  · rw [e, List.length_set]; omega
  · rw [e, delE_len _ _ hi]; omega
/-- Entries whose values aren't too long. -/
def FineE (l : List Ent) : Prop := ∀ e ∈ l, 1 ≤ e.key.length ∧ e.key.length ≤ 16 ∧ e.val.length ≤ 32
theorem onE_fine {l : List Ent} (hr : Rising Ent.key l) (hf : FineE l) (u : Upd) : FineE (onE l u) := by
  rcases onE_cases l u hr with ⟨e, -⟩ | ⟨hno, y, -, hy, hc, e⟩ | ⟨i, hi, hk, y, -, hy, hc, e⟩ | ⟨i, hi, -, -, e⟩
  · rw [e]; exact hf
  · rw [e]
    intro x hx
    obtain ⟨c1, c2, c3, -⟩ := Upd.check_ok hc
    rcases insE_mem.1 hx with rfl | hx
    · have := onL_len [] false u 32 (by simp) c3 (by decide)
      rw [hy] at this
      exact ⟨c1, c2, this⟩
    · exact hf x hx
  · rw [e]
    intro x hx
    obtain ⟨c1, c2, c3, -⟩ := Upd.check_ok hc
    rcases (mem_setE hr i hi y x).1 hx with rfl | ⟨hx, -⟩
    · have h0 := hf _ (List.getElem_mem hi)
      have := onL_len l[i].val true u 32 h0.2.2 c3 (by decide)
      rw [hy] at this
      exact ⟨h0.1, h0.2.1, this⟩
    · exact hf x hx
  · rw [e]
    exact fun x hx => hf x ((delE_sub l i).subset hx)
theorem onE_look {l : List Ent} (hr : Rising Ent.key l) (u : Upd) (k : List UInt8) : lookE (onE l u) k = if k = u.key then actE u (lookE l k) else lookE l k := by
  have hr' := onE_rising hr u
  by_cases hk : k = u.key
  · subst hk
    rw [if_pos rfl]
    rcases onE_cases l u hr with ⟨e, h⟩ | ⟨hno, y, h, -, -, e⟩ | ⟨i, hi, hki, y, h, -, -, e⟩ | ⟨i, hi, hki, h, e⟩
    · rw [e, h]
    · rw [h]
      exact (lookE_iff hr' _ _).2 (by rw [e]; exact insE_mem.2 (Or.inl rfl))
    · rw [h]
      exact (lookE_iff hr' _ _).2 (by rw [e]; exact (mem_setE hr i hi y _).2 (Or.inl (by rw [hki])))
    · rw [h]
      refine lookE_by hr' _ _ fun v => ⟨fun hm => ?_, fun hm => by cases hm⟩
      rw [e] at hm
      exact absurd hki.symm ((mem_delE hr i hi _).1 hm).2
  · rw [if_neg hk]
    refine lookE_by hr' _ _ fun v => ?_
    rw [lookE_iff hr]
    rcases onE_cases l u hr with ⟨e, h⟩ | ⟨hno, y, h, -, -, e⟩ | ⟨i, hi, hki, y, h, -, -, e⟩ | ⟨i, hi, hki, h, e⟩
    · rw [e]
    · rw [e, insE_mem]
      exact ⟨fun h => h.resolve_left (fun e' => hk (congrArg Ent.key e')), Or.inr⟩
    · rw [e, mem_setE hr i hi, hki]
      exact ⟨fun h => (h.resolve_left (fun e' => hk (congrArg Ent.key e'))).1, fun h => Or.inr ⟨h, hk⟩⟩
    · rw [e, mem_delE hr i hi, hki]
      exact ⟨fun h => h.1, fun h => ⟨h, hk⟩⟩

/-- One behind the other. -/
def onAll (l : List Ent) (us : List Upd) : List Ent := us.foldl onE l
theorem onAll_snoc (l : List Ent) (us : List Upd) (u : Upd) : onAll l (us ++ [u]) = onE (onAll l us) u := by simp [onAll]
theorem onAll_ok (l : List Ent) (hr : Rising Ent.key l) (hf : FineE l) : ∀ us : List Upd, Rising Ent.key (onAll l us) ∧ FineE (onAll l us) ∧ (onAll l us).length ≤ l.length + us.length := by
  intro us
  induction us using snoc_ind with
  | h0 => exact ⟨hr, hf, by simp [onAll]⟩
  | h1 us u ih =>
    obtain ⟨h1, h2, h3⟩ := ih
    rw [onAll_snoc]
    refine ⟨onE_rising h1 u, onE_fine h1 h2 u, ?_⟩
    have := onE_len h1 u
    simp only [List.length_append, List.length_singleton]
    omega
/-- Updates of unlike keys: each key by its own, if there is one. -/
theorem onAll_look (l : List Ent) (hr : Rising Ent.key l) (hf : FineE l) : ∀ us : List Upd, (us.map Upd.key).Nodup → ∀ k, lookE (onAll l us) k = match us.find? (fun u => u.key == k) with | some u => actE u (lookE l k) | none => lookE l k := by
  intro us
  induction us using snoc_ind with
  | h0 => intro _ k; rfl
  | h1 us u ih =>
    intro hn k
    rw [List.map_append, List.nodup_append] at hn
    have h := ih hn.1 k
    rw [onAll_snoc, onE_look (onAll_ok l hr hf us).1, h, List.find?_append]
    by_cases hk : k = u.key
    · subst hk
      rw [if_pos rfl]
      have : us.find? (fun v => v.key == u.key) = none := by
        rw [List.find?_eq_none]
        intro v hv e
        exact hn.2.2 v.key (List.mem_map.2 ⟨v, hv, rfl⟩) u.key (by simp) (by simpa using e)
      rw [this]
      simp
    · rw [if_neg hk]
      cases hu : us.find? (fun v => v.key == k) with
      | some v => simp
      | none =>
        have : (u.key == k) = false := by simpa using fun e => hk e.symm
        simp [this]
/-- .. in whatever order. -/
theorem onAll_perm (l : List Ent) (hr : Rising Ent.key l) (hf : FineE l) (us vs : List Upd) (hn : (us.map Upd.key).Nodup) (hp : vs.Perm us) : onAll l vs = onAll l us := by
  have hn' : (vs.map Upd.key).Nodup := (hp.map Upd.key).nodup_iff.2 hn
  refine lookE_ext (onAll_ok l hr hf vs).1 (onAll_ok l hr hf us).1 fun k => ?_
  rw [onAll_look l hr hf vs hn', onAll_look l hr hf us hn]
  have hfind : vs.find? (fun u => u.key == k) = us.find? (fun u => u.key == k) := by
    have key : ∀ (ws : List Upd), (ws.map Upd.key).Nodup → ∀ u, ws.find? (fun u => u.key == k) = some u ↔ u ∈ ws ∧ u.key = k := by
      intro ws hw u
      constructor
      · intro h
        exact ⟨List.mem_of_find?_eq_some h, by simpa using List.find?_some h⟩
      · rintro ⟨h1, h2⟩
        obtain ⟨i, hi, rfl⟩ := List.getElem_of_mem h1
        refine List.find?_eq_some_iff_getElem.2 ⟨by simpa using h2, i, hi, rfl, fun j hj => ?_⟩
        have hne := (List.pairwise_iff_getElem.1 hw) j i (by simp; omega) (by simpa using hi) hj
        simp only [List.getElem_map] at hne
        rw [h2] at hne
        simpa using hne
    cases hv : vs.find? (fun u => u.key == k) with
    | some u =>
      have := (key vs hn' u).1 hv
      exact ((key us hn u).2 ⟨hp.mem_iff.1 this.1, this.2⟩).symm
    | none =>
      cases hu : us.find? (fun u => u.key == k) with
      | none => rfl
      | some u =>
        have := (key us hn u).1 hu
        rw [(key vs hn' u).2 ⟨hp.mem_iff.2 this.1, this.2⟩] at hv
        exact hv.symm
  rw [hfind]

end Go.Proofs.Ythcjcmalfnfjkaa

namespace Go.Proofs.Ythcjcmalfnfjkaa
open Go.RowKit

def valV : Option (List UInt8) → Value
  | none => .tuple #[.string (S []), .bool false]
  | some v => .tuple #[.string (S v), .bool true]

theorem SlAt.cells2 {w : World} {ao : Option Addr} {l : List Ent} (hs : SlAt Ent.cells 2 w ao l) (i : Nat) (hi : i < l.length) :
    ∃ b off, ao = some ⟨b, off, none⟩ ∧ b < w.heap.size ∧ w.cell? ⟨b, off + i * 2, none⟩ = some (.string (S l[i].key)) ∧ w.cell? ⟨b, off + i * 2 + 1, none⟩ = some (.string (S l[i].val)) := by
  obtain ⟨b, off, rfl, hb, hc⟩ := hs.at (by omega)
  obtain ⟨h0, h1⟩ := entCells hc i hi
  exact ⟨b, off, rfl, hb, h0, h1⟩

end Go.Proofs.Ythcjcmalfnfjkaa

namespace Go.Proofs.Ythcjcmalfnfjkaa
open Go.RowKit

end Go.Proofs.Ythcjcmalfnfjkaa

namespace Go.Proofs.Ythcjcmalfnfjkaa
open Go.RowKit

theorem lookE_cons (e : Ent) (l : List Ent) (k : List UInt8) : lookE (e :: l) k = if e.key = k then some e.val else lookE l k := by
  unfold lookE
  rw [List.find?_cons]
  by_cases h : e.key = k
  · simp [h]
  · have : (e.key == k) = false := by simpa using h
    simp [h, this]

set_option maxHeartbeats 2000000 in
theorem refEGet_any (ao : Option Addr) (c : Nat) (l : List Ent) (k : List UInt8) (w : World) (hl : l.length ≤ 1000000) (hs : SlAt Ent.cells 2 w ao l) :
    Calls Try.prog 35 #[.slice ao l.length c, .string (S k)] w fun e w' => e = .returned (valV (lookE l k)) ∧ Below w.heap.size w w' := by
  go_enter Try.func35, Try.ntmps35
  go_wp2_with fail
  go_loopw [6] (fun i wr => ∃ j : Nat, i = .int .i64 j ∧ j ≤ l.length ∧ Hid (lookE (l.drop j) k = lookE l k) ∧ Below w.heap.size w wr) (fun i _ => l.length - (intOf i).toNat)
  case atStart => exact ⟨0, rfl, Nat.zero_le _, Lib.hid rfl, Below.refl _ _⟩
  case round =>
    obtain ⟨j, rfl, hj, hlook, hB⟩ := hrel
    have hj0 : (0 : Int) ≤ (j : Int) := Int.natCast_nonneg _
    by_cases hjl : j < l.length
    · have hj1 : (j : Int) < (l.length : Int) := by omega
      obtain ⟨b, off, rfl, hb, t0, t1⟩ := SlAt.cells2 hs j hjl
      have q0 := (cell_below hB hb _).trans t0
      have q1 := (cell_below hB hb _).trans t1
      have hdr : l.drop j = l[j] :: l.drop (j + 1) := List.drop_eq_getElem_cons hjl
      have hlk := hlook.out
      rw [hdr, lookE_cons] at hlk
      have hlk' := Lib.hid hlk
      clear t0 t1 hdr hlk hs
      generalize l[j] = u at *
      by_cases hk : u.key = k
      · have hke : Hid (lookE l k = some u.val) := Lib.hid (by rw [← hlk'.out, if_pos hk])
        subst hk
        clear hlk'
        go_wp2_with fail
        exact bodyPost_ret (v := valV (some u.val)) (by simp [results, Try.results35, go_sem, valV]) rfl ⟨by rw [hke.out], hB⟩
      · have hkb : (u.key == k) = false := by simpa using hk
        have hke := Lib.hid (show lookE (l.drop (j + 1)) k = lookE l k by rw [← hlk'.out, if_neg hk])
        go_wp2_with fail
        exact ⟨⟨j + 1, by go_num, by omega, hke, hB⟩, by simp [intOf]; omega⟩
    · obtain rfl : j = l.length := by omega
      have hke : Hid (lookE l k = none) := Lib.hid (by rw [← hlook.out, List.drop_length]; rfl)
      go_wp2_with fail
      exact bodyPost_ret (v := valV none) (by simp [results, Try.results35, go_sem, valV]; rfl) rfl ⟨by rw [hke.out], hB⟩

end Go.Proofs.Ythcjcmalfnfjkaa

namespace Go.Proofs.Ythcjcmalfnfjkaa
open Go.RowKit

/-- One entry in the document's loop. -/
def refStep (x : Ent) (st : List Ent × Bool) (e : Ent) : List Ent × Bool :=
  let s1 := if st.2 = false ∧ bl e.key x.key = false then (st.1 ++ [x], true) else st
  if e.key = x.key then s1 else (s1.1 ++ [e], s1.2)
def refFold (x : Ent) (st : List Ent × Bool) (l : List Ent) : List Ent × Bool := l.foldl (refStep x) st
theorem refFold_snoc (x : Ent) (st : List Ent × Bool) (l : List Ent) (j : Nat) (hj : j < l.length) : refFold x st (l.take (j + 1)) = refStep x (refFold x st (l.take j)) l[j] := by
  unfold refFold
  rw [List.take_succ_eq_append_getElem hj, List.foldl_append]
  rfl
theorem refStep_len (x : Ent) (st : List Ent × Bool) (e : Ent) : (refStep x st e).1.length ≤ st.1.length + 2 := by
  unfold refStep
  dsimp only
  split <;> split <;> simp
theorem refFold_len (x : Ent) : ∀ (l : List Ent) (st : List Ent × Bool), (refFold x st l).1.length ≤ st.1.length + 2 * l.length
  | [], st => by simp [refFold]
  | e :: l, st => by
    have h1 := refFold_len x l (refStep x st e)
    have h2 := refStep_len x st e
    have h3 : refFold x st (e :: l) = refFold x (refStep x st e) l := rfl
    rw [h3, List.length_cons]
    omega
theorem refFold_done (x : Ent) : ∀ (l out : List Ent), refFold x (out, true) l = (out ++ l.filter (fun e => e.key != x.key), true)
  | [], out => by simp [refFold]
  | e :: l, out => by
    have h3 : refFold x (out, true) (e :: l) = refFold x (refStep x (out, true) e) l := rfl
    rw [h3]
    unfold refStep
    by_cases hk : e.key = x.key
    · simp only [hk, if_true, Bool.true_eq_false, false_and, if_false]
      rw [refFold_done x l out]
      simp [hk]
    · simp only [hk, if_false, Bool.true_eq_false, false_and]
      rw [refFold_done x l (out ++ [e])]
      simp [hk]
theorem below_cons (e : Ent) (l : List Ent) (k : List UInt8) : below Ent.key (e :: l) k = if bl e.key k = true then below Ent.key l k + 1 else below Ent.key l k := by
  unfold below
  rw [List.countP_cons]
  split <;> simp
theorem below_none {e : Ent} {l : List Ent} (hr : Rising Ent.key (e :: l)) (k : List UInt8) (h : bl e.key k = false) : below Ent.key l k = 0 := by
  unfold below
  rw [List.countP_eq_zero]
  intro a ha hb
  have := bl_trans (hr.cons.1 a ha) hb
  rw [h] at this
  exact absurd this (by simp)
theorem refFold_open (x : Ent) : ∀ (l out : List Ent), Rising Ent.key l → refFold x (out, false) l = if below Ent.key l x.key < l.length then (out ++ l.take (below Ent.key l x.key) ++ x :: (l.drop (below Ent.key l x.key)).filter (fun e => e.key != x.key), true) else (out ++ l, false)
  | [], out, _ => by simp [refFold, below]
  | e :: l, out, hr => by
    have h3 : refFold x (out, false) (e :: l) = refFold x (refStep x (out, false) e) l := rfl
    rw [h3, below_cons]
    cases hb : bl e.key x.key with
    | true =>
      have hk : ¬ e.key = x.key := bl_ne hb
      have hs : refStep x (out, false) e = (out ++ [e], false) := by
        unfold refStep
        simp [hb, hk]
      rw [hs, refFold_open x l (out ++ [e]) hr.cons.2]
      simp only [if_true, List.length_cons, Nat.add_lt_add_iff_right, List.take_succ_cons, List.drop_succ_cons]
      split <;> simp
    | false =>
      have h0 := below_none hr x.key hb
      simp only [Bool.false_eq_true, if_false, h0]
      rw [if_pos (by simp)]
      by_cases hk : e.key = x.key
      · have hs : refStep x (out, false) e = (out ++ [x], true) := by
          unfold refStep
          simp [hk, bl_irrefl]
        rw [hs, refFold_done]
        simp [hk]
      · have hs : refStep x (out, false) e = (out ++ [x] ++ [e], true) := by
          unfold refStep
          simp [hb, hk]
        rw [hs, refFold_done]
        simp [hk]
/-- What the document's On makes of entries, told by its value and whether there is one. -/
def refOut (l : List Ent) (x : Ent) (is : Bool) : List Ent :=
  let st := refFold x ([], !is) l
  if st.2 then st.1 else st.1 ++ [x]
theorem filter_none {l : List Ent} {k : List UInt8} (h : ∀ e ∈ l, e.key ≠ k) : l.filter (fun e => e.key != k) = l := by
  rw [List.filter_eq_self]
  intro e he
  simpa using h e he
theorem filter_at {l : List Ent} (hr : Rising Ent.key l) (i : Nat) (hi : i < l.length) (k : List UInt8) (hk : l[i].key = k) : l.filter (fun e => e.key != k) = l.take i ++ l.drop (i + 1) := by
  have h1 : (l.take i).filter (fun e => e.key != k) = l.take i := filter_none fun e he => by
    obtain ⟨j, hj, rfl⟩ := List.getElem_of_mem he
    rw [List.length_take] at hj
    rw [List.getElem_take, ← hk]
    exact bl_ne (hr.lt (show j < i by omega) hi)
  have h2 : (l.drop (i + 1)).filter (fun e => e.key != k) = l.drop (i + 1) := filter_none fun e he => by
    obtain ⟨j, hj, rfl⟩ := List.getElem_of_mem he
    rw [List.length_drop] at hj
    rw [List.getElem_drop, ← hk]
    exact fun hk => bl_ne (hr.lt (show i < i + 1 + j by omega) (by omega)) hk.symm
  have h3 : (l.drop i).filter (fun e => e.key != k) = (l.drop (i + 1)).filter (fun e => e.key != k) := by
    rw [List.drop_eq_getElem_cons hi, List.filter_cons_of_neg (by simp [hk])]
  have h4 : l.filter (fun e => e.key != k) = (l.take i ++ l.drop i).filter (fun e => e.key != k) := by rw [List.take_append_drop]
  rw [h4, List.filter_append, h1, h3, h2]
/-- The document's way and the leaf's are one. -/
theorem refOut_is {l : List Ent} (hr : Rising Ent.key l) (u : Upd) (hc : u.check = 0) : refOut l ⟨u.key, (newE l u).1⟩ (newE l u).2 = onE l u := by
  have hc' : ¬ u.check ≠ 0 := by simp [hc]
  unfold onE
  rw [if_neg hc']
  generalize (newE l u).1 = y
  unfold refOut
  cases hh : hasKey Ent.key l u.key with
  | false =>
    have hno := hasKeyE_not hh
    cases hi : (newE l u).2 with
    | false =>
      have := refFold_done ⟨u.key, y⟩ l []
      simp only [Bool.not_false, this, if_true, List.nil_append]
      simp [filter_none hno]
    | true =>
      have := refFold_open ⟨u.key, y⟩ l [] hr
      simp only [Bool.not_true, this]
      have hf : (l.drop (below Ent.key l u.key)).filter (fun e => e.key != u.key) = l.drop (below Ent.key l u.key) := filter_none fun e he => hno e (List.mem_of_mem_drop he)
      split
      · simp [insE, hf]
      · rename_i hb
        have hle := below_le (key := Ent.key) l u.key
        have hbl : below Ent.key l u.key = l.length := by omega
        simp [insE, hbl]
  | true =>
    obtain ⟨hlt, hkey⟩ := (hr.found u.key).1 hh
    have hfa := filter_at hr _ hlt _ hkey
    cases hi : (newE l u).2 with
    | false =>
      have := refFold_done ⟨u.key, y⟩ l []
      simp only [Bool.not_false, this, if_true, List.nil_append]
      simp [hfa, delE]
    | true =>
      have := refFold_open ⟨u.key, y⟩ l [] hr
      simp only [Bool.not_true, this]
      have hd : (l.drop (below Ent.key l u.key)).filter (fun e => e.key != u.key) = l.drop (below Ent.key l u.key + 1) := by
        have h1 : (l.take (below Ent.key l u.key)).filter (fun e => e.key != u.key) = l.take (below Ent.key l u.key) := filter_none fun e he => by
          obtain ⟨j, hj, rfl⟩ := List.getElem_of_mem he
          rw [List.length_take] at hj
          rw [List.getElem_take]
          exact bl_ne ((hr.below u.key j (by omega)).2 (by omega))
        have h4 : l.filter (fun e => e.key != u.key) = (l.take (below Ent.key l u.key) ++ l.drop (below Ent.key l u.key)).filter (fun e => e.key != u.key) := by rw [List.take_append_drop]
        rw [h4, List.filter_append, h1] at hfa
        exact List.append_cancel_left hfa
      simp only [hlt, if_true, List.nil_append, hd]
      rw [List.set_eq_take_append_cons_drop, if_pos hlt]

end Go.Proofs.Ythcjcmalfnfjkaa

namespace Go.Proofs.Ythcjcmalfnfjkaa
open Go.RowKit

theorem infoR : (Try.prog.info? 68).map (fun i => (i.zero, i.size, i.bytes)) = some (some (.agg #[.string ByteArray.empty, .string ByteArray.empty]), 2, 32) := by kernel_rfl
/-- Entries in a row of the call's own, whatever the elements' type is called. -/
theorem SlE.of_row {w : World} {B n : Nat} {E : TypeId} {v : Value} {l : List Ent} (h : w.ownsRow B E 2 v n (cellsE l)) : l.length = n ∧ SlE w v l := by
  have hn : l.length = n := by have := h.1; rw [cellsE_len] at this; omega
  refine ⟨hn, ?_⟩
  subst hn
  rcases ownsRow_open h with ⟨rfl, h0, -⟩ | ⟨g, cap, cur, rfl, -, hr, h3, h4, h5, h6⟩
  · obtain rfl := List.eq_nil_of_length_eq_zero h0
    exact SlE.nil w
  · refine ⟨_, cap, rfl, Or.inr ⟨g, 0, rfl, hr.lt, fun i hi j x hx => ?_⟩, h3, by unfold maxLen at h4; omega, fun e => by simp at e⟩
    have hj : j < 2 := (List.getElem?_eq_some_iff.1 hx).1
    have e := cellsE_get l i hi j x hx
    rw [hr.cell, Nat.zero_add, ← e, ← h6, List.getElem?_take, if_pos (by omega)]
theorem cell_two_new (w : World) (x y : Value) (t : TypeId) : ∀ j v, [x, y][j]? = some v → (w.alloc (.cells #[x, y] t)).cell? ((⟨w.heap.size, 0, none⟩ : Addr).add j) = some v := by
  intro j v hj
  match j, hj with
  | 0, hj => simp at hj; subst hj; simp [Addr.add]
  | 1, hj => simp at hj; subst hj; simp [Addr.add]

set_option maxRecDepth 100000 in
set_option maxHeartbeats 4000000 in
theorem refEOn_run (ao : Option Addr) (c : Nat) (l : List Ent) (kd : Nat) (key val : List UInt8) (dl : Nat) (w : World) (hs : SlAt Ent.cells 2 w ao l) (hl : l.length ≤ 1000) (hk : kd < 256) (hd : dl < 18446744073709551616) (hc : (Upd.mk kd key val dl).check = 0) (y : List UInt8) (is : Bool)
    (hnew : (match lookE l key with | some v => onL v true ⟨kd, key, val, dl⟩ | none => onL [] false ⟨kd, key, val, dl⟩) = (y, is)) :
    Calls Try.prog 36 #[.slice ao l.length c, .agg #[.int .u8 kd, .string (S key), .string (S val), .int .u64 dl]] w fun e w' => (∃ a c', e = .returned (.slice a (refOut l ⟨key, y⟩ is).length c') ∧ w'.ownsRow w.heap.size 68 2 (.slice a (refOut l ⟨key, y⟩ is).length c') (refOut l ⟨key, y⟩ is).length (cellsE (refOut l ⟨key, y⟩ is))) ∧ Below w.heap.size w w' := by
  obtain ⟨i0, hi, iz0, iz1, iz2⟩ := info_parts infoR
  have hchk := fun w => refCheck kd key val dl hk hd w
  rw [hc] at hchk
  have hget := fun w h => refEGet_any ao c l key w (by omega) h
  obtain ⟨old, there, hlv, hon⟩ : ∃ old there, valV (lookE l key) = .tuple #[.string (S old), .bool there] ∧ onL old there ⟨kd, key, val, dl⟩ = (y, is) := by
    cases hlk : lookE l key with
    | none => exact ⟨[], false, rfl, by simpa [hlk] using hnew⟩
    | some v => exact ⟨v, true, rfl, by simpa [hlk] using hnew⟩
  rw [hlv] at hget
  have honr := fun w => refOn_any old there kd key val dl hk hd w
  unfold onV at honr
  rw [hon] at honr
  have HG := Lib.hid hget
  have HN := Lib.hid honr
  have HS := Lib.hid hs
  clear hnew hlv hon hget honr hs hc hk hd
  go_enter Try.func36, Try.ntmps36
  go_wp2_with fail
  refine (thread (hchk _) w.heap.size w (by go_grown) (by go_grown)).mono ?_
  rintro e w1 ⟨rfl, hB1, hk1, -, -, hz1⟩
  have p0 := (hk1 w.heap.size 0 (by simp)).trans (by simp [go_sem]; rfl)
  have p1 := (hk1 w.heap.size 1 (by simp)).trans (by simp [go_sem]; rfl)
  have p2 := (hk1 w.heap.size 2 (by simp)).trans (by simp [go_sem]; rfl)
  have p3 := (hk1 w.heap.size 3 (by simp)).trans (by simp [go_sem]; rfl)
  clear hk1 hchk
  go_wp2_with fail
  refine (thread (HG.out _ (HS.out.kept hB1 (Nat.le_refl _))) w1.heap.size w1 (by go_grown) (by go_grown)).mono ?_
  rintro e w2 ⟨rfl, hX2, -, -, -, hz2⟩
  have q0 := kept_cell hX2 p0
  have q1 := kept_cell hX2 p1
  have q2 := kept_cell hX2 p2
  have q3 := kept_cell hX2 p3
  have hB2 := hB1.trans (hX2.mono hz1)
  clear p0 p1 p2 p3 hX2
  go_wp2_with fail
  refine (thread (HN.out _) w2.heap.size w2 (by go_grown) (by go_grown)).mono ?_
  rintro e w3 ⟨rfl, hX3, -, -, -, hz3⟩
  have r1 := kept_cell hX3 q1
  have hB3 := hB2.trans (hX3.mono (by omega))
  have hu3 : w.heap.size < w3.heap.size := World.block_lt_of_cell? w3 _ r1
  clear q0 q1 q2 q3 hX3
  go_wp2_with fail
  go_loopw [12, 10, 11] (fun i out dn wr => ∃ j : Nat, i = .int .i64 j ∧ j ≤ l.length ∧ ∃ st : List Ent × Bool, Hid (refFold ⟨key, y⟩ ([], !is) (l.take j) = st) ∧ dn = .bool st.2 ∧ wr.ownsRow w3.heap.size 68 2 out st.1.length (cellsE st.1) ∧ Below w3.heap.size w3 wr) (fun i _ _ _ => l.length - (intOf i).toNat)
  case atStart => exact ⟨0, rfl, Nat.zero_le _, ([], !is), Lib.hid rfl, rfl, World.ownsRow_nil _ _ _ _, Below.refl _ _⟩
  case round =>
    obtain ⟨j, rfl, hj, ⟨o, dn⟩, hfold, rfl, ho, hB⟩ := hrel
    have hj0 : (0 : Int) ≤ (j : Int) := Int.natCast_nonneg _
    dsimp only at ho
    obtain ⟨ov, oc, eo⟩ := own_form ho
    subst eo
    by_cases hjl : j < l.length
    · have hj1 : (j : Int) < (l.length : Int) := by omega
      obtain ⟨b, off, rfl, hb, t0, t1⟩ := SlAt.cells2 HS.out j hjl
      have hBw := hB3.trans (hB.mono hB3.size)
      have q0 := (cell_below hBw hb _).trans t0
      have q1 := (cell_below hBw hb _).trans t1
      have r1w := (cell_below hB hu3 1).trans r1
      have hst := Lib.hid (refFold_snoc ⟨key, y⟩ ([], !is) l j hjl)
      have hol : o.length ≤ 2000 := by
        have h1 := refFold_len ⟨key, y⟩ (l.take j) ([], !is)
        rw [hfold.out, List.length_take] at h1
        simp only [List.length_nil] at h1
        omega
      clear t1 hBw HG HN
      generalize l[j] = e at *
      cases dn with
      | true =>
        by_cases hk : e.key = key
        · have hkb : (e.key == key) = true := by simpa using hk
          go_wp2_with fail
          go_quiet (fail)
          obtain ⟨wqa, hwqa⟩ : ∃ wqa, wqa = wr.drewN nq := ⟨_, rfl⟩
          rw [← hwqa]
          have hBqa : Below wr.heap.size wr wqa := by rw [hwqa]; exact below_drewN (Below.refl _ _) nq
          clear hwqa
          have e0a := kept_cell hBqa q0
          have e1a := kept_cell hBqa q1
          have k1a := kept_cell hBqa r1w
          have owna := own_below ho hBqa
          have hBBa := hB.trans (hBqa.mono hB.size)
          clear hBqa
          go_wp2_with fail
          go_quiet (fail)
          obtain ⟨wqb, hwqb⟩ : ∃ wqb, wqb = wqa.drewN nq := ⟨_, rfl⟩
          rw [← hwqb]
          have hBqb : Below wqa.heap.size wqa wqb := by rw [hwqb]; exact below_drewN (Below.refl _ _) nq
          clear hwqb
          have e0b := kept_cell hBqb e0a
          have e1b := kept_cell hBqb e1a
          have k1b := kept_cell hBqb k1a
          have ownb := own_below owna hBqb
          have hBBb := hBBa.trans (hBqb.mono hBBa.size)
          clear hBqb
          go_wp2_with fail
          have hstep : refStep ⟨key, y⟩ (o, true) e = (o, true) := by
            unfold refStep
            simp [hk]
          exact ⟨⟨j + 1, by go_num, by omega, (o, true), Lib.hid (by rw [hst.out, hfold.out, hstep]), rfl, ownb, hBBb⟩, by simp [intOf]; omega⟩
        · have hkb : (e.key == key) = false := by simpa using hk
          go_wp2_with fail
          go_quiet (fail)
          obtain ⟨wqa, hwqa⟩ : ∃ wqa, wqa = wr.drewN nq := ⟨_, rfl⟩
          rw [← hwqa]
          have hBqa : Below wr.heap.size wr wqa := by rw [hwqa]; exact below_drewN (Below.refl _ _) nq
          clear hwqa
          have e0a := kept_cell hBqa q0
          have e1a := kept_cell hBqa q1
          have k1a := kept_cell hBqa r1w
          have owna := own_below ho hBqa
          have hBBa := hB.trans (hBqa.mono hB.size)
          clear hBqa
          go_wp2_with fail
          go_quiet (fail)
          obtain ⟨wqb, hwqb⟩ : ∃ wqb, wqb = wqa.drewN nq := ⟨_, rfl⟩
          rw [← hwqb]
          have hBqb : Below wqa.heap.size wqa wqb := by rw [hwqb]; exact below_drewN (Below.refl _ _) nq
          clear hwqb
          have e0b := kept_cell hBqb e0a
          have e1b := kept_cell hBqb e1a
          have k1b := kept_cell hBqb k1a
          have ownb := own_below owna hBqb
          have hBBb := hBBa.trans (hBqb.mono hBBa.size)
          clear hBqb
          go_wp2_with (at_builtin; go_must (refine wpList_append_own_at _ rfl (.tmp 67) (.tmp 72) 41 rfl w3.heap.size 68 i0 (.agg #[.string ByteArray.empty, .string ByteArray.empty]) 2 32 Try.underlying41 hi iz0 iz1 iz2 rfl (by decide) _ o.length _ rfl (ownb.alloc _) ⟨wqb.heap.size, 0, none⟩ 1 1 [.string (S e.key), .string (S e.val)] rfl rfl (cell_two_new _ _ _ _) (by simp [Value.oneCell']) (by unfold maxLen; omega) (by omega) (by have := hBBb.size; simp; omega) ?_; intro vz wz hownz hgrowz _ _))
          have hstep : refStep ⟨key, y⟩ (o, true) e = (o ++ [e], true) := by
            unfold refStep
            simp [hk]
          exact ⟨⟨j + 1, by go_num, by omega, (o ++ [e], true), Lib.hid (by rw [hst.out, hfold.out, hstep]), rfl, by rw [cellsE_append, cellsE_one, List.length_append, List.length_singleton]; exact hownz, below_grown (hBBb.alloc (by have := hBBb.size; omega) _) hgrowz (fun k e => (ownb.lt k e).1) (by have := hBBb.size; simp; omega)⟩, by simp [intOf]; omega⟩
      | false =>
        cases hbl : bl e.key key with
        | true =>
          have hk : ¬ e.key = key := bl_ne hbl
          have hkb : (e.key == key) = false := by simpa using hk
          go_wp2_with fail
          go_quiet (fail)
          obtain ⟨wqa, hwqa⟩ : ∃ wqa, wqa = wr.drewN nq := ⟨_, rfl⟩
          rw [← hwqa]
          have hBqa : Below wr.heap.size wr wqa := by rw [hwqa]; exact below_drewN (Below.refl _ _) nq
          clear hwqa
          have e0a := kept_cell hBqa q0
          have e1a := kept_cell hBqa q1
          have k1a := kept_cell hBqa r1w
          have owna := own_below ho hBqa
          have hBBa := hB.trans (hBqa.mono hB.size)
          clear hBqa
          go_wp2_with fail
          go_quiet (fail)
          obtain ⟨wqb, hwqb⟩ : ∃ wqb, wqb = wqa.drewN nq := ⟨_, rfl⟩
          rw [← hwqb]
          have hBqb : Below wqa.heap.size wqa wqb := by rw [hwqb]; exact below_drewN (Below.refl _ _) nq
          clear hwqb
          have e0b := kept_cell hBqb e0a
          have e1b := kept_cell hBqb e1a
          have k1b := kept_cell hBqb k1a
          have ownb := own_below owna hBqb
          have hBBb := hBBa.trans (hBqb.mono hBBa.size)
          clear hBqb
          go_wp2_with (at_builtin; go_must (refine wpList_append_own_at _ rfl (.tmp 67) (.tmp 72) 41 rfl w3.heap.size 68 i0 (.agg #[.string ByteArray.empty, .string ByteArray.empty]) 2 32 Try.underlying41 hi iz0 iz1 iz2 rfl (by decide) _ o.length _ rfl (ownb.alloc _) ⟨wqb.heap.size, 0, none⟩ 1 1 [.string (S e.key), .string (S e.val)] rfl rfl (cell_two_new _ _ _ _) (by simp [Value.oneCell']) (by unfold maxLen; omega) (by omega) (by have := hBBb.size; simp; omega) ?_; intro vz wz hownz hgrowz _ _))
          have hstep : refStep ⟨key, y⟩ (o, false) e = (o ++ [e], false) := by
            unfold refStep
            simp [hbl, hk]
          exact ⟨⟨j + 1, by go_num, by omega, (o ++ [e], false), Lib.hid (by rw [hst.out, hfold.out, hstep]), rfl, by rw [cellsE_append, cellsE_one, List.length_append, List.length_singleton]; exact hownz, below_grown (hBBb.alloc (by have := hBBb.size; omega) _) hgrowz (fun k e => (ownb.lt k e).1) (by have := hBBb.size; simp; omega)⟩, by simp [intOf]; omega⟩
        | false =>
          by_cases hk : e.key = key
          · have hkb : (e.key == key) = true := by simpa using hk
            have hbk : Op.bytesLess key key = false := bl_irrefl key
            go_wp2_with fail
            go_quiet (fail)
            obtain ⟨wqa, hwqa⟩ : ∃ wqa, wqa = wr.drewN nq := ⟨_, rfl⟩
            rw [← hwqa]
            have hBqa : Below wr.heap.size wr wqa := by rw [hwqa]; exact below_drewN (Below.refl _ _) nq
            clear hwqa
            have e0a := kept_cell hBqa q0
            have e1a := kept_cell hBqa q1
            have k1a := kept_cell hBqa r1w
            have owna := own_below ho hBqa
            have hBBa := hB.trans (hBqa.mono hB.size)
            clear hBqa
            go_wp2_with (at_builtin; go_must (refine wpList_append_own_at _ rfl (.tmp 52) (.tmp 57) 41 rfl w3.heap.size 68 i0 (.agg #[.string ByteArray.empty, .string ByteArray.empty]) 2 32 Try.underlying41 hi iz0 iz1 iz2 rfl (by decide) _ o.length _ rfl (owna.alloc _) ⟨wqa.heap.size, 0, none⟩ 1 1 [.string (S key), .string (S y)] rfl rfl (cell_two_new _ _ _ _) (by simp [Value.oneCell']) (by unfold maxLen; omega) (by omega) (by have := hBBa.size; simp; omega) ?_; intro vx wx hownx hgrowx _ _))
            have hownX : wx.ownsRow w3.heap.size 68 2 vx (o ++ [Ent.mk key y]).length (cellsE (o ++ [Ent.mk key y])) := by rw [cellsE_append, cellsE_one, List.length_append, List.length_singleton]; exact hownx
            have hBX := below_grown (hBBa.alloc (by have := hBBa.size; omega) _) hgrowx (fun k e => (owna.lt k e).1) (by have := hBBa.size; simp; omega)
            have hne : ∀ g, (Value.slice ov o.length oc).ownBlock = some g → w3.heap.size ≤ g := fun g e => (owna.lt g e).1
            obtain ⟨ax, cx, ex⟩ := own_form hownx
            subst ex
            have f0 := hgrowx.cell (cell_past _ e0a) (fun h => by have h1 : b < w.heap.size := hb; have h2 : w3.heap.size ≤ b := hne _ h.symm; have h3 := hB3.size; omega)
            have f1 := hgrowx.cell (cell_past _ e1a) (fun h => by have h1 : b < w.heap.size := hb; have h2 : w3.heap.size ≤ b := hne _ h.symm; have h3 := hB3.size; omega)
            have f2 := hgrowx.cell (cell_past _ k1a) (fun h => by have h2 : w3.heap.size ≤ w.heap.size := hne _ h.symm; omega)
            have hol2 : (o ++ [Ent.mk key y]).length ≤ 2001 := by rw [List.length_append, List.length_singleton]; omega
            clear hgrowx hownx
            go_wp2_with fail
            go_quiet (fail)
            obtain ⟨wqb, hwqb⟩ : ∃ wqb, wqb = wx.drewN nq := ⟨_, rfl⟩
            rw [← hwqb]
            have hBqb : Below wx.heap.size wx wqb := by rw [hwqb]; exact below_drewN (Below.refl _ _) nq
            clear hwqb
            have e0b := kept_cell hBqb f0
            have e1b := kept_cell hBqb f1
            have k1b := kept_cell hBqb f2
            have ownb := own_below hownX hBqb
            have hBBb := hBX.trans (hBqb.mono hBX.size)
            clear hBqb
            go_wp2_with fail
            have hstep : refStep ⟨key, y⟩ (o, false) e = (o ++ [Ent.mk key y], true) := by
              unfold refStep
              simp [hk, bl_irrefl]
            exact ⟨⟨j + 1, by go_num, by omega, (o ++ [Ent.mk key y], true), Lib.hid (by rw [hst.out, hfold.out, hstep]), rfl, ownb, hBBb⟩, by simp [intOf]; omega⟩
          · have hkb : (e.key == key) = false := by simpa using hk
            go_wp2_with fail
            go_quiet (fail)
            obtain ⟨wqa, hwqa⟩ : ∃ wqa, wqa = wr.drewN nq := ⟨_, rfl⟩
            rw [← hwqa]
            have hBqa : Below wr.heap.size wr wqa := by rw [hwqa]; exact below_drewN (Below.refl _ _) nq
            clear hwqa
            have e0a := kept_cell hBqa q0
            have e1a := kept_cell hBqa q1
            have k1a := kept_cell hBqa r1w
            have owna := own_below ho hBqa
            have hBBa := hB.trans (hBqa.mono hB.size)
            clear hBqa
            go_wp2_with (at_builtin; go_must (refine wpList_append_own_at _ rfl (.tmp 52) (.tmp 57) 41 rfl w3.heap.size 68 i0 (.agg #[.string ByteArray.empty, .string ByteArray.empty]) 2 32 Try.underlying41 hi iz0 iz1 iz2 rfl (by decide) _ o.length _ rfl (owna.alloc _) ⟨wqa.heap.size, 0, none⟩ 1 1 [.string (S key), .string (S y)] rfl rfl (cell_two_new _ _ _ _) (by simp [Value.oneCell']) (by unfold maxLen; omega) (by omega) (by have := hBBa.size; simp; omega) ?_; intro vx wx hownx hgrowx _ _))
            have hownX : wx.ownsRow w3.heap.size 68 2 vx (o ++ [Ent.mk key y]).length (cellsE (o ++ [Ent.mk key y])) := by rw [cellsE_append, cellsE_one, List.length_append, List.length_singleton]; exact hownx
            have hBX := below_grown (hBBa.alloc (by have := hBBa.size; omega) _) hgrowx (fun k e => (owna.lt k e).1) (by have := hBBa.size; simp; omega)
            have hne : ∀ g, (Value.slice ov o.length oc).ownBlock = some g → w3.heap.size ≤ g := fun g e => (owna.lt g e).1
            obtain ⟨ax, cx, ex⟩ := own_form hownx
            subst ex
            have f0 := hgrowx.cell (cell_past _ e0a) (fun h => by have h1 : b < w.heap.size := hb; have h2 : w3.heap.size ≤ b := hne _ h.symm; have h3 := hB3.size; omega)
            have f1 := hgrowx.cell (cell_past _ e1a) (fun h => by have h1 : b < w.heap.size := hb; have h2 : w3.heap.size ≤ b := hne _ h.symm; have h3 := hB3.size; omega)
            have f2 := hgrowx.cell (cell_past _ k1a) (fun h => by have h2 : w3.heap.size ≤ w.heap.size := hne _ h.symm; omega)
            have hol2 : (o ++ [Ent.mk key y]).length ≤ 2001 := by rw [List.length_append, List.length_singleton]; omega
            clear hgrowx hownx
            go_wp2_with fail
            go_quiet (fail)
            obtain ⟨wqb, hwqb⟩ : ∃ wqb, wqb = wx.drewN nq := ⟨_, rfl⟩
            rw [← hwqb]
            have hBqb : Below wx.heap.size wx wqb := by rw [hwqb]; exact below_drewN (Below.refl _ _) nq
            clear hwqb
            have e0b := kept_cell hBqb f0
            have e1b := kept_cell hBqb f1
            have k1b := kept_cell hBqb f2
            have ownb := own_below hownX hBqb
            have hBBb := hBX.trans (hBqb.mono hBX.size)
            clear hBqb
            go_wp2_with (at_builtin; go_must (refine wpList_append_own_at _ rfl (.tmp 67) (.tmp 72) 41 rfl w3.heap.size 68 i0 (.agg #[.string ByteArray.empty, .string ByteArray.empty]) 2 32 Try.underlying41 hi iz0 iz1 iz2 rfl (by decide) _ (o ++ [Ent.mk key y]).length _ rfl (ownb.alloc _) ⟨wqb.heap.size, 0, none⟩ 1 1 [.string (S e.key), .string (S e.val)] rfl rfl (cell_two_new _ _ _ _) (by simp [Value.oneCell']) (by unfold maxLen; omega) (by omega) (by have := hBBb.size; simp; omega) ?_; intro vz wz hownz hgrowz _ _))
            have hstep : refStep ⟨key, y⟩ (o, false) e = (o ++ [Ent.mk key y] ++ [e], true) := by
              unfold refStep
              simp [hbl, hk]
            exact ⟨⟨j + 1, by go_num, by omega, (o ++ [Ent.mk key y] ++ [e], true), Lib.hid (by rw [hst.out, hfold.out, hstep]), rfl, by rw [cellsE_append (o ++ [Ent.mk key y]) [e], cellsE_one, List.length_append, List.length_singleton]; exact hownz, below_grown (hBBb.alloc (by have := hBBb.size; omega) _) hgrowz (fun k e => (ownb.lt k e).1) (by have := hBBb.size; simp; omega)⟩, by simp [intOf]; omega⟩
    · obtain rfl : j = l.length := by omega
      have hro := hfold.out
      rw [List.take_length] at hro
      have hBw := hB3.trans (hB.mono hB3.size)
      have r1w := (cell_below hB hu3 1).trans r1
      have hol : o.length ≤ 2000 := by
        have h1 := refFold_len ⟨key, y⟩ l ([], !is)
        rw [hro] at h1
        simp only [List.length_nil] at h1
        omega
      cases dn with
      | true =>
        have hre := Lib.hid (show refOut l ⟨key, y⟩ is = o by unfold refOut; rw [hro]; rfl)
        clear hro
        go_wp2_with fail
        go_ret
        exact ⟨⟨ov, oc, by rw [hre.out]; rfl, by rw [hre.out]; exact own_base ho (by have := hB3.size; omega)⟩, hBw⟩
      | false =>
        have hre := Lib.hid (show refOut l ⟨key, y⟩ is = o ++ [Ent.mk key y] by unfold refOut; rw [hro]; rfl)
        clear hro
        go_wp2_with (at_builtin; go_must (refine wpList_append_own_at _ rfl (.tmp 76) (.tmp 81) 41 rfl w3.heap.size 68 i0 (.agg #[.string ByteArray.empty, .string ByteArray.empty]) 2 32 Try.underlying41 hi iz0 iz1 iz2 rfl (by decide) _ o.length _ rfl (ho.alloc _) ⟨wr.heap.size, 0, none⟩ 1 1 [.string (S key), .string (S y)] rfl rfl (cell_two_new _ _ _ _) (by simp [Value.oneCell']) (by unfold maxLen; omega) (by omega) (by have := hB.size; simp; omega) ?_; intro vz wz hownz hgrowz _ _; obtain ⟨az, cz, ez⟩ := own_form hownz; subst ez))
        have hownZ : wz.ownsRow w3.heap.size 68 2 (.slice az (o ++ [Ent.mk key y]).length cz) (o ++ [Ent.mk key y]).length (cellsE (o ++ [Ent.mk key y])) := by rw [cellsE_append, cellsE_one, List.length_append, List.length_singleton]; exact hownz
        go_ret
        refine ⟨⟨az, cz, by rw [hre.out, List.length_append, List.length_singleton]; rfl, by rw [hre.out]; exact own_base hownZ (by have := hB3.size; omega)⟩, ?_⟩
        exact hB3.trans ((below_grown (hB.alloc (by have := hB.size; omega) _) hgrowz (fun k e => (ho.lt k e).1) (by have := hB.size; simp; omega)).mono hB3.size)

end Go.Proofs.Ythcjcmalfnfjkaa

namespace Go.Proofs.Ythcjcmalfnfjkaa
open Go.RowKit

set_option maxHeartbeats 1000000 in
theorem refEOn_not (v : Value) (kd : Nat) (key val : List UInt8) (dl : Nat) (w : World) (hk : kd < 256) (hd : dl < 18446744073709551616) (hc : (Upd.mk kd key val dl).check ≠ 0) :
    Calls Try.prog 36 #[v, .agg #[.int .u8 kd, .string (S key), .string (S val), .int .u64 dl]] w fun e w' => e = .returned v ∧ Below w.heap.size w w' := by
  have hchk := fun w => refCheck kd key val dl hk hd w
  have hc0 : (((Upd.mk kd key val dl).check : Nat) : Int) ≠ 0 := by omega
  generalize (Upd.mk kd key val dl).check = cc at *
  go_enter Try.func36, Try.ntmps36
  go_wp2_with fail
  refine (thread (hchk _) w.heap.size w (by go_grown) (by go_grown)).mono ?_
  rintro e w1 ⟨rfl, hB1, -, -, -, -⟩
  go_wp2_with fail
  go_ret
  exact ⟨rfl, hB1⟩

theorem newE_is {l : List Ent} (hr : Rising Ent.key l) (u : Upd) : (match lookE l u.key with | some v => onL v true u | none => onL [] false u) = newE l u := by
  unfold newE
  cases hh : hasKey Ent.key l u.key with
  | false => rw [lookE_none hh]; rfl
  | true =>
    obtain ⟨hlt, hkey⟩ := (hr.found u.key).1 hh
    have ho : oldE l u.key = (l[below Ent.key l u.key]'hlt).val := by unfold oldE; rw [List.getElem?_eq_getElem hlt]; rfl
    have hl := lookE_at hr _ hlt
    rw [hkey] at hl
    rw [hl, ho]
    rfl
/-- It is a row of its own, or what came in. -/
theorem refEOn_own (ao : Option Addr) (n c : Nat) (l : List Ent) (kd : Nat) (key val : List UInt8) (dl : Nat) (w : World) (hn : n = l.length) (hs : SlE w (.slice ao n c) l) (hr : Rising Ent.key l) (hl : l.length ≤ 1000) (hk : kd < 256) (hd : dl < 18446744073709551616) :
    Calls Try.prog 36 #[.slice ao n c, .agg #[.int .u8 kd, .string (S key), .string (S val), .int .u64 dl]] w fun e w' => (∃ a c', e = .returned (.slice a (onE l ⟨kd, key, val, dl⟩).length c') ∧ (w'.ownsRow w.heap.size 68 2 (.slice a (onE l ⟨kd, key, val, dl⟩).length c') (onE l ⟨kd, key, val, dl⟩).length (cellsE (onE l ⟨kd, key, val, dl⟩)) ∨ (a = ao ∧ c' = c ∧ onE l ⟨kd, key, val, dl⟩ = l))) ∧ Below w.heap.size w w' := by
  subst hn
  by_cases hc : (Upd.mk kd key val dl).check = 0
  · have h1 := newE_is hr ⟨kd, key, val, dl⟩
    have h2 := refOut_is hr ⟨kd, key, val, dl⟩ hc
    obtain ⟨ao', c', e, hs', -⟩ := hs
    simp only [Value.slice.injEq] at e
    obtain ⟨rfl, -, rfl⟩ := e
    have := refEOn_run ao c l kd key val dl w hs' hl hk hd hc (newE l ⟨kd, key, val, dl⟩).1 (newE l ⟨kd, key, val, dl⟩).2 h1
    dsimp only at h2
    rw [h2] at this
    refine this.mono ?_
    rintro e w' ⟨⟨a, c', he, ho⟩, hb⟩
    exact ⟨⟨a, c', he, Or.inl ho⟩, hb⟩
  · have h3 : onE l ⟨kd, key, val, dl⟩ = l := by unfold onE; rw [if_pos hc]
    rw [h3]
    refine (refEOn_not _ kd key val dl w hk hd hc).mono ?_
    rintro e w' ⟨rfl, hb⟩
    exact ⟨⟨ao, c, rfl, Or.inr ⟨rfl, rfl, rfl⟩⟩, hb⟩
theorem refEOn_any (ao : Option Addr) (n c : Nat) (l : List Ent) (kd : Nat) (key val : List UInt8) (dl : Nat) (w : World) (hn : n = l.length) (hs : SlE w (.slice ao n c) l) (hr : Rising Ent.key l) (hl : l.length ≤ 1000) (hk : kd < 256) (hd : dl < 18446744073709551616) :
    Calls Try.prog 36 #[.slice ao n c, .agg #[.int .u8 kd, .string (S key), .string (S val), .int .u64 dl]] w fun e w' => (∃ a c', e = .returned (.slice a (onE l ⟨kd, key, val, dl⟩).length c') ∧ SlE w' (.slice a (onE l ⟨kd, key, val, dl⟩).length c') (onE l ⟨kd, key, val, dl⟩)) ∧ Below w.heap.size w w' := by
  refine (refEOn_own ao n c l kd key val dl w hn hs hr hl hk hd).mono ?_
  rintro e w' ⟨⟨a, c', he, h⟩, hb⟩
  refine ⟨⟨a, c', he, ?_⟩, hb⟩
  rcases h with h | ⟨rfl, rfl, h⟩
  · exact (SlE.of_row h).2
  · rw [h, ← hn]
    exact hs.kept hb (Nat.le_refl _)

end Go.Proofs.Ythcjcmalfnfjkaa
