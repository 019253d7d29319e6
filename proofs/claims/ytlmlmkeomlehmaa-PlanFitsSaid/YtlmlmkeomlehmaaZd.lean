/-
  Updates that tame made, joined; the document's With and Cut: plain laws, no program in sight.
  Updates that tame made stay such in a buffer: plain laws.
  What BufOrder's second loop holds: two buffers in their boxes; and plain laws on its lists.
  Contracts as BufPlays needs them: the program's and the document's With, Cut, Text, by one list.
  The walks of the document's layer 1: a number in a width.
  The walks of the document's layer 12: whether an update may be; the bytes of updates.
  The walk of the document's bytes of updates.
  The walk of the document's Split.
  An update in a box.
  The walks of strings.Builder's copyCheck, WriteString and String (after the shelf's own), and of lend.Join.
  The walk of (rec.Update).Check: as the document's.
-/
import Derived.Test.YtlmlmkeomlehmaaZc
import Derived.Test.YtlmlmkeomlehmaaZb
import Derived.Test.YtlmlmkeomlehmaaZa
import Derived.Deep.Light
import Derived.Lib.Builder
import Derived.Lib.AppendStr
import Derived.Lib.Walk
import Derived.Laws.Externs
import Derived.Lib.UnsafeStr
import Derived.BigRegion
namespace Go.Proofs.Ytlmlmkeomlehmaa
open Go.RowKit

/-- An update that may be, of a short key and a short value. -/
structure Tm (u : Upd) : Prop where
  wf : u.Wf
  kind : u.kind = 1 ∨ u.kind = 2 ∨ u.kind = 3
  val : u.kind = 1 ∨ u.val = []
  delta : u.kind = 3 ∨ u.delta = 0
  klen : u.key.length ≤ 3
  kpos : 1 ≤ u.key.length
  vlen : u.val.length ≤ 20
theorem Tm.check {u : Upd} (h : Tm u) : u.check = 0 := by
  have h1 := h.kind
  have h2 := h.val
  have h3 := h.delta
  have h4 := h.klen
  have h5 := h.kpos
  have h6 := h.vlen
  unfold Upd.check
  rw [if_neg (by omega), if_neg]
  rintro (h | h | ⟨h, h'⟩ | ⟨h, h'⟩)
  · omega
  · omega
  · rcases h2 with h2 | h2
    · exact h h2
    · exact h' h2
  · rcases h3 with h3 | h3
    · exact h h3
    · exact h' h3
theorem joinL_one {f t : Upd} (ht : t.kind = 3) (hf : f.kind = 1) (h8 : ¬ f.val.length = 8) : joinL f t = ⟨1, t.key, f.val, 0⟩ := by
  rw [joinL_put f t ht (by omega), onL_put [] false f hf]
  simp only [onL_add f.val t ht h8]
theorem joinL_num {f t : Upd} (ht : t.kind = 3) (hf : f.kind = 1) (h8 : f.val.length = 8) : joinL f t = ⟨1, t.key, le ((numL f.val + t.delta) % 18446744073709551616) 8, 0⟩ := by
  rw [joinL_put f t ht (by omega), onL_put [] false f hf]
  simp only [onL_add8 f.val t ht h8]
theorem joinL_two {f t : Upd} (ht : t.kind = 3) (hf : f.kind = 2) : joinL f t = ⟨1, t.key, le (t.delta % 18446744073709551616) 8, 0⟩ := by
  rw [joinL_put f t ht (by omega), onL_del [] false f hf]
  simp only [onL_add0 [] t ht]
theorem joinL_tm {f t : Upd} (hf : Tm f) (ht : Tm t) : Tm (joinL f t) := by
  by_cases h3 : t.kind = 3
  · have hw : (0 : Nat) < 18446744073709551616 := by decide
    rcases hf.kind with h | h | h
    · by_cases h8 : f.val.length = 8
      · rw [joinL_num h3 h h8]
        exact ⟨⟨by show (1 : Nat) < 256; decide, hw⟩, Or.inl rfl, Or.inl rfl, Or.inr rfl, ht.klen, ht.kpos, by show (le _ 8).length ≤ 20; rw [le_length]; decide⟩
      · rw [joinL_one h3 h h8]
        exact ⟨⟨by show (1 : Nat) < 256; decide, hw⟩, Or.inl rfl, Or.inl rfl, Or.inr rfl, ht.klen, ht.kpos, hf.vlen⟩
    · rw [joinL_two h3 h]
      exact ⟨⟨by show (1 : Nat) < 256; decide, hw⟩, Or.inl rfl, Or.inl rfl, Or.inr rfl, ht.klen, ht.kpos, by show (le _ 8).length ≤ 20; rw [le_length]; decide⟩
    · rw [joinL_add f t h3 h]
      have hv : t.val = [] := ht.val.resolve_left (by omega)
      exact ⟨⟨by show (3 : Nat) < 256; decide, Nat.mod_lt _ (by decide)⟩, Or.inr (Or.inr rfl), Or.inr hv, Or.inl rfl, ht.klen, ht.kpos, ht.vlen⟩
  · rw [joinL_not f t h3]; exact ht
/-- One step of the document's With. -/
def wStep (u : Upd) (st : List Upd × Bool) (x : Upd) : List Upd × Bool :=
  if x.key = u.key then (st.1 ++ [joinL x u], true)
  else if st.2 = false ∧ bl u.key x.key = true then (st.1 ++ [u] ++ [x], true) else (st.1 ++ [x], st.2)
def wFold (u : Upd) (l : List Upd) : List Upd × Bool := l.foldl (wStep u) ([], false)
def wOut (u : Upd) (l : List Upd) : List Upd := if (wFold u l).2 then (wFold u l).1 else (wFold u l).1 ++ [u]
theorem wFold_snoc (u : Upd) (l : List Upd) (j : Nat) (hj : j < l.length) : wFold u (l.take (j + 1)) = wStep u (wFold u (l.take j)) l[j] := by
  unfold wFold
  rw [List.take_succ_eq_append_getElem hj, List.foldl_append]
  rfl
theorem wStep_len (u : Upd) (st : List Upd × Bool) (x : Upd) : (wStep u st x).1.length ≤ st.1.length + 2 := by
  unfold wStep
  split
  · simp
  · split <;> simp
theorem wFold_len (u : Upd) (l : List Upd) : ∀ j, j ≤ l.length → (wFold u (l.take j)).1.length ≤ 2 * j
  | 0, _ => by simp [wFold]
  | j + 1, h => by
    have := wFold_len u l j (by omega)
    rw [wFold_snoc u l j (by omega)]
    have h2 := wStep_len u (wFold u (l.take j)) (l[j]'(by omega))
    omega

/-- In a rising list: what is below a key, perhaps the one of that key, what is above it. -/
theorem wFold_below (u : Upd) : ∀ (l acc : List Upd), (∀ x ∈ l, bl x.key u.key = true) → l.foldl (wStep u) (acc, false) = (acc ++ l, false)
  | [], acc, _ => by simp
  | x :: l, acc, h => by
    have hx := h x (List.mem_cons_self ..)
    have e : wStep u (acc, false) x = (acc ++ [x], false) := by
      unfold wStep
      rw [if_neg (bl_ne hx), if_neg (by rw [bl_asymm hx]; simp)]
    rw [List.foldl_cons, e, wFold_below u l (acc ++ [x]) (fun y hy => h y (List.mem_cons_of_mem _ hy))]
    simp
theorem wFold_above (u : Upd) : ∀ (l acc : List Upd), (∀ x ∈ l, bl u.key x.key = true) → l.foldl (wStep u) (acc, true) = (acc ++ l, true)
  | [], acc, _ => by simp
  | x :: l, acc, h => by
    have hx := h x (List.mem_cons_self ..)
    have e : wStep u (acc, true) x = (acc ++ [x], true) := by
      unfold wStep
      rw [if_neg (fun k => bl_ne hx k.symm), if_neg (by simp)]
    rw [List.foldl_cons, e, wFold_above u l (acc ++ [x]) (fun y hy => h y (List.mem_cons_of_mem _ hy))]
    simp
theorem take_below {l : List Upd} (hr : Rising Upd.key l) (k : List UInt8) : ∀ x ∈ l.take (below Upd.key l k), bl x.key k = true := by
  intro x hx
  obtain ⟨i, hi, rfl⟩ := List.mem_take_iff_getElem.1 hx
  exact (hr.below k i (by omega)).2 (by omega)
theorem drop_above {l : List Upd} (hr : Rising Upd.key l) (k : List UInt8) (n : Nat) (hno : ∀ h : n < l.length, bl k (l[n]'h).key = true) : ∀ x ∈ l.drop n, bl k x.key = true := by
  intro x hx
  obtain ⟨i, hi, rfl⟩ := List.mem_iff_getElem.1 hx
  rw [List.getElem_drop]
  rw [List.length_drop] at hi
  have h0 := hno (by omega)
  cases i with
  | zero => exact h0
  | succ i => exact bl_trans h0 (hr.lt (show n < n + (i + 1) by omega) (by omega))
theorem wOut_with {l : List Upd} (hr : Rising Upd.key l) (u : Upd) : wOut u l = withL l u := by
  have hb := below_le (key := Upd.key) l u.key
  have hsplit : l = l.take (below Upd.key l u.key) ++ l.drop (below Upd.key l u.key) := (List.take_append_drop _ _).symm
  have h1 := wFold_below u (l.take (below Upd.key l u.key)) [] (take_below hr u.key)
  have hfold : wFold u l = (l.drop (below Upd.key l u.key)).foldl (wStep u) (l.take (below Upd.key l u.key), false) := by
    unfold wFold
    conv => lhs; rw [hsplit]
    rw [List.foldl_append, h1, List.nil_append]
  by_cases hlt : below Upd.key l u.key < l.length
  · have hnb : bl (l[below Upd.key l u.key]).key u.key = false := by
      cases h : bl (l[below Upd.key l u.key]).key u.key with
      | false => rfl
      | true => have := (hr.below u.key _ hlt).1 h; omega
    have hd := List.drop_eq_getElem_cons hlt
    by_cases hk : (l[below Upd.key l u.key]).key = u.key
    · have hh : hasKey Upd.key l u.key = true := (hr.found u.key).2 ⟨hlt, hk⟩
      have hab := drop_above hr u.key (below Upd.key l u.key + 1) (fun h => by have h2 := hr.lt (Nat.lt_succ_self _) h; rw [hk] at h2; exact h2)
      have e : wStep u (l.take (below Upd.key l u.key), false) l[below Upd.key l u.key] = (l.take (below Upd.key l u.key) ++ [joinL l[below Upd.key l u.key] u], true) := by
        unfold wStep; rw [if_pos hk]
      have hf : wFold u l = (l.take (below Upd.key l u.key) ++ [joinL l[below Upd.key l u.key] u] ++ l.drop (below Upd.key l u.key + 1), true) := by
        rw [hfold, hd, List.foldl_cons, e, wFold_above u _ _ hab]
      unfold wOut withL
      rw [hf, dif_pos ⟨hlt, hh⟩, List.set_eq_take_append_cons_drop, if_pos hlt]
      simp
    · have hb2 : bl u.key (l[below Upd.key l u.key]).key = true := by
        rcases bl_tri (l[below Upd.key l u.key]).key u.key with h | h | h
        · exact absurd h hk
        · rw [hnb] at h; exact absurd h (by simp)
        · exact h
      have hh : hasKey Upd.key l u.key = false := by
        cases h : hasKey Upd.key l u.key with
        | false => rfl
        | true => obtain ⟨_, h2⟩ := (hr.found u.key).1 h; exact absurd h2 hk
      have hab := drop_above hr u.key (below Upd.key l u.key + 1) (fun h => bl_trans hb2 (hr.lt (Nat.lt_succ_self _) h))
      have e : wStep u (l.take (below Upd.key l u.key), false) l[below Upd.key l u.key] = (l.take (below Upd.key l u.key) ++ [u] ++ [l[below Upd.key l u.key]], true) := by
        unfold wStep; rw [if_neg hk, if_pos ⟨rfl, hb2⟩]
      have hf : wFold u l = (l.take (below Upd.key l u.key) ++ [u] ++ [l[below Upd.key l u.key]] ++ l.drop (below Upd.key l u.key + 1), true) := by
        rw [hfold, hd, List.foldl_cons, e, wFold_above u _ _ hab]
      unfold wOut withL
      rw [hf, dif_neg (by simp [hh])]
      simp only [if_true, insU]
      rw [hd]
      simp
  · have he : below Upd.key l u.key = l.length := by omega
    have hh : hasKey Upd.key l u.key = false := by
      cases h : hasKey Upd.key l u.key with
      | false => rfl
      | true => obtain ⟨h2, _⟩ := (hr.found u.key).1 h; omega
    have hf : wFold u l = (l, false) := by
      rw [hfold, he, List.drop_length, List.take_length]; rfl
    unfold wOut withL
    rw [hf, dif_neg (by simp [hh]), he]
    simp [insU]

/-- Is a key within? -/
def withinB (k low high : List UInt8) : Bool := !(bl k low) && (high.isEmpty || bl k high)
theorem cut_filter {l : List Upd} (hr : Rising Upd.key l) (low high : List UInt8) :
    cutIn l low high = l.filter (fun u => withinB u.key low high) ∧ cutOut l low high = l.filter (fun u => !withinB u.key low high) := by
  have hce := cutEnd_le l low high
  generalize hi : below Upd.key l low = i at *
  generalize hk : cutEnd l low high = k at *
  have hmid : ∀ x ∈ (l.drop i).take (k - i), withinB x.key low high = true := by
    intro x hx
    obtain ⟨j, hj, rfl⟩ := List.mem_take_iff_getElem.1 hx
    rw [List.length_drop] at hj
    rw [List.getElem_drop]
    unfold withinB
    have h1 : bl (l[i + j]'(by omega)).key low = false := by
      cases h : bl (l[i + j]'(by omega)).key low with
      | false => rfl
      | true => have := (hr.below low _ (by omega)).1 h; omega
    rw [h1]
    cases hh : high with
    | nil => rfl
    | cons a t =>
      have h2 : bl (l[i + j]'(by omega)).key high = true := by
        refine (hr.below high _ (by omega)).2 ?_
        have : k = max i (below Upd.key l high) := by rw [← hk, cutEnd, hi, if_neg (by rw [hh]; simp)]
        omega
      rw [hh] at h2
      simp [h2]
  have hlow : ∀ x ∈ l.take i, withinB x.key low high = false := by
    intro x hx
    have := take_below hr low x (by rw [hi]; exact hx)
    unfold withinB
    rw [this]; rfl
  have hup : ∀ x ∈ l.drop k, withinB x.key low high = false := by
    intro x hx
    obtain ⟨j, hj, rfl⟩ := List.mem_iff_getElem.1 hx
    rw [List.length_drop] at hj
    rw [List.getElem_drop]
    unfold withinB
    by_cases hh : high = []
    · have : k = max i l.length := by rw [← hk, cutEnd, hi, if_pos hh]
      omega
    · have hke : k = max i (below Upd.key l high) := by rw [← hk, cutEnd, hi, if_neg hh]
      have h2 : bl (l[k + j]'(by omega)).key high = false := by
        cases h : bl (l[k + j]'(by omega)).key high with
        | false => rfl
        | true => have := (hr.below high _ (by omega)).1 h; omega
      have h3 : high.isEmpty = false := by cases high <;> simp at hh ⊢
      rw [h2, h3]; simp
  have hl : l = l.take i ++ ((l.drop i).take (k - i) ++ l.drop k) := by
    have e1 : l.drop k = (l.drop i).drop (k - i) := by rw [List.drop_drop]; congr 1; omega
    rw [e1, List.take_append_drop, List.take_append_drop]
  have f1 : ∀ (p : Upd → Bool) (s : List Upd), (∀ x ∈ s, p x = true) → s.filter p = s := fun p s h => List.filter_eq_self.2 h
  have f0 : ∀ (p : Upd → Bool) (s : List Upd), (∀ x ∈ s, p x = false) → s.filter p = [] := fun p s h => List.filter_eq_nil_iff.2 (fun x hx => by rw [h x hx]; simp)
  constructor
  · unfold cutIn
    rw [hi, hk]
    conv => rhs; rw [hl]
    rw [List.filter_append, List.filter_append, f0 _ _ hlow, f1 _ _ hmid, f0 _ _ hup]; simp
  · unfold cutOut
    rw [hi, hk]
    conv => rhs; rw [hl]
    rw [List.filter_append, List.filter_append, f1 _ _ (fun x hx => by rw [hlow x hx]; rfl), f0 _ _ (fun x hx => by rw [hmid x hx]; rfl), f1 _ _ (fun x hx => by rw [hup x hx]; rfl)]; simp

end Go.Proofs.Ytlmlmkeomlehmaa

namespace Go.Proofs.Ytlmlmkeomlehmaa
open Go.RowKit

theorem withL_tm {l : List Upd} (hr : Rising Upd.key l) (hf : ∀ x ∈ l, Tm x) (u : Upd) (hu : Tm u) : ∀ x ∈ withL l u, Tm x := by
  cases h : hasKey Upd.key l u.key with
  | false =>
    rw [withL_new h]
    intro x hx
    rcases insU_mem.1 hx with rfl | hx
    · exact hu
    · exact hf x hx
  | true =>
    obtain ⟨i, hi, hk, e⟩ := withL_old hr h
    rw [e]
    intro x hx
    rcases List.mem_or_eq_of_mem_set hx with hx | rfl
    · exact hf x hx
    · exact joinL_tm (hf _ (List.getElem_mem hi)) hu
theorem tm_fine {l : List Upd} (hf : ∀ x ∈ l, Tm x) : Fine l := fun x hx => ⟨(hf x hx).wf, by have := (hf x hx).vlen; omega⟩
theorem tm_empty {l : List Upd} (hf : ∀ x ∈ l, Tm x) : hasKey Upd.key l [] = false := by
  rw [Bool.eq_false_iff]
  intro h
  obtain ⟨x, hx, e⟩ := hasKey_iff.1 h
  have := (hf x hx).kpos
  rw [e] at this
  exact absurd this (by simp)

/-- Two values whose rows are not the same. -/
def ApartV (a b : Value) : Prop := ∀ k, a.ownBlock = some k → b.ownBlock ≠ some k
theorem ApartV.symm {a b : Value} (h : ApartV a b) : ApartV b a := fun k e e' => h k e' e
theorem ApartV.keep {a b : Value} (h : ApartV a b) : b.ownBlock = none ∨ b.ownBlock ≠ a.ownBlock := by
  cases hb : b.ownBlock with
  | none => exact Or.inl rfl
  | some k => exact Or.inr fun e => h k e.symm hb
/-- Two rows of a call's own, of one kind, that are apart. -/
structure TwoR (base : Nat) (E : TypeId) (W0 W : World) (A M : Value) (na nm : Nat) (xa xm : List Value) : Prop where
  own1 : W.ownsRow base E 4 A na xa
  own2 : W.ownsRow base E 4 M nm xm
  below : Below base W0 W
  le : base ≤ W.heap.size
  apart : ApartV A M
section
variable {base : Nat} {E : TypeId} {W0 W w' : World} {A M : Value} {na nm : Nat} {xa xm : List Value}
theorem TwoR.on (h : TwoR base E W0 W A M na nm xa xm) (hb : Below W.heap.size W w') : TwoR base E W0 w' A M na nm xa xm :=
  ⟨own_below h.own1 hb, own_below h.own2 hb, h.below.trans (hb.mono h.le), Nat.le_trans h.le hb.size, h.apart⟩
theorem TwoR.symm (h : TwoR base E W0 W A M na nm xa xm) : TwoR base E W0 W M A nm na xm xa :=
  ⟨h.own2, h.own1, h.below, h.le, h.apart.symm⟩
theorem TwoR.app (h : TwoR base E W0 W A M na nm xa xm) {v' : Value} {n' : Nat} {x' : List Value} (ho : w'.ownsRow base E 4 v' n' x') (hg : W.grownBy w' A.ownBlock) (hb : v'.ownBlock = A.ownBlock ∨ v'.ownBlock = some W.heap.size) : TwoR base E W0 w' v' M n' nm x' xm := by
  refine ⟨ho, h.own2.kept hg h.apart.keep, below_grown h.below hg (fun k e => (h.own1.lt k e).1) h.le, Nat.le_trans h.le hg.size, fun k e e' => ?_⟩
  rcases hb with hb | hb
  · exact h.apart k (hb.symm.trans e) e'
  · rw [hb] at e
    injection e with e
    have := (h.own2.lt k e').2
    omega
end
/-- What Cut has put into both rows: the ones ahead. -/
theorem filter_take {α : Type} (p : α → Bool) (l : List α) (j : Nat) (hj : j < l.length) : (l.take (j + 1)).filter p = if p l[j] then (l.take j).filter p ++ [l[j]] else (l.take j).filter p := by
  rw [List.take_succ_eq_append_getElem hj, List.filter_append]
  cases h : p l[j] <;> simp [h]
theorem filter_le {α : Type} (p : α → Bool) (l : List α) (j : Nat) : ((l.take j).filter p).length ≤ l.length := by
  refine Nat.le_trans (List.length_filter_le _ _) ?_
  rw [List.length_take]; omega

end Go.Proofs.Ytlmlmkeomlehmaa

namespace Go.Proofs.Ytlmlmkeomlehmaa
open Go.RowKit

/-- Whatever turn: the same buffer. -/
theorem turned_same (F : List Upd) (t : Nat) (hf : ∀ u ∈ F, u.Wf ∧ u.val.length ≤ 1000000) (hn : (F.map Upd.key).Nodup) : withAll (rotL F t F.length) = withAll F := by
  have hp := rotL_perm F t
  have hf' : ∀ u ∈ rotL F t F.length, u.Wf ∧ u.val.length ≤ 1000000 := fun u hu => hf u (hp.mem_iff.1 hu)
  have hn' : ((rotL F t F.length).map Upd.key).Nodup := (hp.map Upd.key).nodup_iff.2 hn
  exact rising_unique _ _ (withAll_ok _ hf').1 (withAll_ok _ hf).1 ((withAll_perm _ hf' hn').trans (hp.trans (withAll_perm _ hf hn).symm))

/-! ### two buffers in their boxes -/
theorem SlAt.store {w : World} {ao : Option Addr} {l : List Upd} (h : SlAt Upd.cells 4 w ao l) {p : Nat} {a : Option Addr} {n c : Nat} (hp : w.cell? ⟨p, 0, none⟩ = some (.slice a n c)) (u : Value) : SlAt Upd.cells 4 (w.setCell ⟨p, 0, none⟩ u) ao l := by
  rcases h with rfl | ⟨b, off, rfl, hb, hc⟩
  · exact Or.inl rfl
  · refine Or.inr ⟨b, off, rfl, by rw [World.size_setCell]; exact hb, fun i hi j x hx => ?_⟩
    have hcell := hc i hi j x hx
    rw [World.cell?_setCell_other]
    · exact hcell
    · intro e
      rw [← e, hp] at hcell
      have hxe : x = .slice a n c := (Option.some.inj hcell).symm
      subst hxe
      have : Value.slice a n c ∈ Upd.cells l[i] := List.mem_of_getElem? hx
      simp [Upd.cells] at this
theorem BoxU.store {w : World} {v : Value} {l : List Upd} (h : BoxU w v l) {p : Nat} {a : Option Addr} {n c : Nat} (hp : w.cell? ⟨p, 0, none⟩ = some (.slice a n c)) (u : Value) : BoxU (w.setCell ⟨p, 0, none⟩ u) v l := by
  obtain ⟨s, rfl, ao, c', rfl, hs, h1, h2, h3⟩ := h
  exact ⟨_, rfl, ao, c', rfl, hs.store hp u, h1, h2, h3⟩

/-- A buffer in its box p. -/
structure InBox (p : Nat) (A : List Upd) (wr : World) : Prop where
  box : ∃ a c, wr.cell? ⟨p, 0, none⟩ = some (.slice a A.length c) ∧ BoxU wr (.agg #[.slice a A.length c]) A
  free : wr.frozen? ⟨p, 0, none⟩ = false
  lt : p < wr.heap.size
theorem InBox.on {p : Nat} {A : List Upd} {wr w' : World} (h : InBox p A wr) (hb : Below wr.heap.size wr w') : InBox p A w' := by
  obtain ⟨⟨a, c, h1, h2⟩, h3, h4⟩ := h
  exact ⟨⟨a, c, ((bcell hb).1 p 0 h4).trans h1, h2.kept hb (Nat.le_refl _)⟩, ((bcell hb).2 p 0 h4).trans h3, Nat.lt_of_lt_of_le h4 hb.size⟩
theorem InBox.put {p : Nat} {A : List Upd} {wr : World} (h : InBox p A wr) {a : Option Addr} {c : Nat} {A' : List Upd} (hv : BoxU wr (.agg #[.slice a A'.length c]) A') : InBox p A' (wr.setCell ⟨p, 0, none⟩ (.slice a A'.length c)) := by
  obtain ⟨⟨a0, c0, h1, h2⟩, h3, h4⟩ := h
  refine ⟨⟨a, c, World.cell?_setCell_same _ _ _ h1, hv.store h1 _⟩, ?_, by rw [World.size_setCell]; exact h4⟩
  rw [World.frozen?_setCell]; exact h3
theorem InBox.beside {p q : Nat} {A B : List Upd} {wr : World} (h : InBox p A wr) (hq : InBox q B wr) (hne : p ≠ q) (u : Value) : InBox p A (wr.setCell ⟨q, 0, none⟩ u) := by
  obtain ⟨⟨a, c, h1, h2⟩, h3, h4⟩ := h
  obtain ⟨⟨a0, c0, k1, k2⟩, k3, k4⟩ := hq
  refine ⟨⟨a, c, far_block hne h1, h2.store k1 _⟩, ?_, by rw [World.size_setCell]; exact h4⟩
  rw [World.frozen?_setCell]; exact h3
theorem InBox.new (w : World) (t : TypeId) : InBox w.heap.size [] (w.alloc (.cells #[.slice none 0 0] t)) :=
  ⟨⟨none, 0, by simp, ⟨_, rfl, SlU.nil _⟩⟩, by simp, by simp⟩

theorem InBox.drew {p : Nat} {A : List Upd} {wr : World} (h : InBox p A wr) : InBox p A wr.drew := h.on (below_drew' (Below.refl _ _))
/-- With, at a buffer that others made. -/
theorem with_next (a : Option Addr) (n c : Nat) (us : List Upd) (u : Upd) (w : World) (hn : n = (withAll us).length) (h : BoxU w (.agg #[.slice a n c]) (withAll us)) (hl : us.length ≤ 1000) (hus : ∀ x ∈ us, x.Wf ∧ x.val.length ≤ 1000000) (hu : u.Wf) :
    Calls Try.prog 25 #[.agg #[.slice a n c], .agg #[.int .u8 u.kind, .string (S u.key), .string (S u.val), .int .u64 u.delta]] w fun e w' => (∃ a' c', e = .returned (.agg #[.slice a' (withAll (us ++ [u])).length c']) ∧ BoxU w' (.agg #[.slice a' (withAll (us ++ [u])).length c']) (withAll (us ++ [u]))) ∧ Below w.heap.size w w' := by
  subst hn
  obtain ⟨h1, h2, h3⟩ := withAll_ok us hus
  refine (with_any _ (withAll us) u.kind u.key u.val u.delta w h (by omega) h1 h2 hu.1 hu.2).mono ?_
  rintro e w' ⟨⟨v', he, hv⟩, hb⟩
  rw [show withL (withAll us) ⟨u.kind, u.key, u.val, u.delta⟩ = withAll (us ++ [u]) from (withAll_snoc us u).symm] at hv
  obtain ⟨a', c', rfl, hv'⟩ := hv.open
  exact ⟨⟨a', c', he, hv'⟩, hb⟩

end Go.Proofs.Ytlmlmkeomlehmaa

namespace Go.Proofs.Ytlmlmkeomlehmaa
open Go.RowKit

theorem slU_row {w : World} {B n : Nat} {E : TypeId} {v : Value} {l : List Upd} (h : w.ownsRow B E 4 v n (cellsU l)) : l.length = n ∧ SlU w v l := by
  have hn := h.1
  rw [cellsU_len] at hn
  have hn' : l.length = n := by omega
  subst hn'
  refine ⟨rfl, ?_⟩
  rcases ownsRow_open h with ⟨rfl, h0, -⟩ | ⟨g, cap, cur, rfl, -, hr, h3, h4, h5, h6⟩
  · obtain rfl := List.eq_nil_of_length_eq_zero h0
    exact SlU.nil w
  · refine ⟨_, cap, rfl, Or.inr ⟨g, 0, rfl, hr.lt, fun i hi j x hx => ?_⟩, h3, by unfold maxLen at h4; omega, fun e => by simp at e⟩
    have hj : j < 4 := (List.getElem?_eq_some_iff.1 hx).1
    have e := cellsU_get l i hi j x hx
    rw [hr.cell, Nat.zero_add, ← e, ← h6, List.getElem?_take, if_pos (by omega)]
theorem boxU_row {w : World} {B n : Nat} {E : TypeId} {v : Value} {l : List Upd} (h : w.ownsRow B E 4 v n (cellsU l)) : BoxU w (.agg #[v]) l := ⟨v, rfl, (slU_row h).2⟩
theorem BoxU.slice {w : World} {a : Option Addr} {n c : Nat} {l : List Upd} (h : BoxU w (.agg #[.slice a n c]) l) : SlU w (.slice a n c) l := by
  obtain ⟨s, e, hs⟩ := h
  simp only [Value.agg.injEq, Array.mk.injEq, List.cons.injEq, and_true] at e
  rw [e]; exact hs
theorem BoxU.at {w : World} {a : Option Addr} {n c : Nat} {l : List Upd} (h : BoxU w (.agg #[.slice a n c]) l) : SlAt Upd.cells 4 w a l := by
  obtain ⟨x, y, e, h2, -⟩ := h.slice
  simp only [Value.slice.injEq] at e
  obtain ⟨rfl, -, rfl⟩ := e
  exact h2
theorem withAll_tm : ∀ (us : List Upd), (∀ u ∈ us, Tm u) → ∀ x ∈ withAll us, Tm x := by
  intro us
  induction us using snoc_ind with
  | h0 => intro _ x hx; simp [withAll] at hx
  | h1 us u ih =>
    intro h
    have h1 := ih (fun x hx => h x (by simp [hx]))
    rw [withAll_snoc]
    exact withL_tm (withAll_ok us (fun x hx => tm_fine (fun y hy => h y (by simp [hy])) x hx)).1 h1 u (h u (by simp))
theorem tm_ok {us : List Upd} (h : ∀ u ∈ us, Tm u) : ∀ u ∈ us, u.Wf ∧ u.val.length ≤ 1000000 := tm_fine h
theorem cutIn_rising {l : List Upd} (hr : Rising Upd.key l) (low high : List UInt8) : Rising Upd.key (cutIn l low high) := by
  rw [(cut_filter hr low high).1]; exact List.Pairwise.filter _ hr
theorem cutOut_rising {l : List Upd} (hr : Rising Upd.key l) (low high : List UInt8) : Rising Upd.key (cutOut l low high) := by
  rw [(cut_filter hr low high).2]; exact List.Pairwise.filter _ hr
theorem cutIn_le {l : List Upd} (hr : Rising Upd.key l) (low high : List UInt8) : (cutIn l low high).length ≤ l.length := by
  rw [(cut_filter hr low high).1]; exact List.length_filter_le _ _
theorem cutOut_le {l : List Upd} (hr : Rising Upd.key l) (low high : List UInt8) : (cutOut l low high).length ≤ l.length := by
  rw [(cut_filter hr low high).2]; exact List.length_filter_le _ _
/-- Both Cuts. -/
theorem cut_next (a : Option Addr) (n c : Nat) (l : List Upd) (low high : List UInt8) (w : World) (hn : n = l.length) (h : BoxU w (.agg #[.slice a n c]) l) (hl : l.length ≤ 1000) (hr : Rising Upd.key l) :
    Calls Try.prog 27 #[.agg #[.slice a n c], .string (S low), .string (S high)] w fun e w' => (∃ a1 c1 a2 c2, e = .returned (.tuple #[.agg #[.slice a1 (cutIn l low high).length c1], .agg #[.slice a2 (cutOut l low high).length c2]]) ∧ BoxU w' (.agg #[.slice a1 (cutIn l low high).length c1]) (cutIn l low high) ∧ BoxU w' (.agg #[.slice a2 (cutOut l low high).length c2]) (cutOut l low high)) ∧ Below w.heap.size w w' := by
  subst hn
  refine (cut_any _ l low high w h (by omega) hr).mono ?_
  rintro e w' ⟨⟨v1, v2, he, h1, h2⟩, hb⟩
  obtain ⟨a1, c1, rfl, h1'⟩ := h1.open
  obtain ⟨a2, c2, rfl, h2'⟩ := h2.open
  exact ⟨⟨a1, c1, a2, c2, he, h1', h2'⟩, hb⟩
/-- Of the empty key there is nothing. -/
theorem get_empty (a : Option Addr) (n c : Nat) (l : List Upd) (w : World) (hn : n = l.length) (h : BoxU w (.agg #[.slice a n c]) l) (hl : l.length ≤ 1000) (hr : Rising Upd.key l) (hf : ∀ u ∈ l, Tm u) :
    Calls Try.prog 42 #[.agg #[.slice a n c], .string ⟨#[]⟩] w fun e w' => e = .returned (.tuple #[.agg #[.int .u8 0, .string ⟨#[]⟩, .string ⟨#[]⟩, .int .u64 0], .bool false]) ∧ Below w.heap.size w w' := by
  subst hn
  refine (get_any _ l [] w h (by omega) hr).mono ?_
  rintro e w' ⟨he, hb⟩
  rw [getL_none (tm_empty hf)] at he
  exact ⟨he, hb⟩

end Go.Proofs.Ytlmlmkeomlehmaa

namespace Go.Proofs.Ytlmlmkeomlehmaa
open Go.RowKit

set_option maxHeartbeats 400000 in
theorem put_any (n : Nat) (hn : n < 18446744073709551616) (k : Nat) (h1 : 1 ≤ k) (h8 : k ≤ 8) (w : World) :
    Calls Try.prog 90 #[.int .u64 n, .int .i64 k] w fun e w' => e = .returned (.tuple #[.string (S (le n k)), .bool (decide (n / 256 ^ k = 0))]) ∧ Below w.heap.size w w' := by
  have hcv := fun w n c => run_str1 (P := Try.prog) 54 9 5 Try.underlying54 Try.underlying5 Try.underlying9 w n c
  go_enter Try.func90, Try.ntmps90
  go_wp2
  go_loopw [0, 6, 7] (fun x s i wr => ∃ j : Nat, j ≤ k ∧ x = .int .u64 (n / 256 ^ j : Nat) ∧ s = .string (S (le n j)) ∧ i = .int .i64 j ∧ Below w.heap.size w wr) (fun _ _ i _ => k - (intOf i).toNat)
  case atStart => exact ⟨0, Nat.zero_le _, by simp, rfl, rfl, by go_grown⟩
  case round =>
    obtain ⟨j, hj, rfl, rfl, rfl, hB⟩ := hrel
    have hz := hB.size
    have hd : n / 256 ^ j < 18446744073709551616 := Nat.lt_of_le_of_lt (Nat.div_le_self _ _) hn
    generalize hm : n / 256 ^ j = m at hd ⊢
    have Hm := Lib.hid hm
    clear hm hn
    have hl : (le n j).length = j := le_length n j
    go_wp2
    · go_roundw
      case rel => exact ⟨j + 1, by omega, by rw [div_pow_succ, Hm.out]; simp, by rw [le_succ, Hm.out], by go_num, by go_grown⟩
      case measure => simp [intOf]; omega
    · obtain rfl : j = k := by omega
      go_ret2
      exact ⟨ret_val (by rw [Hm.out, ← beq_zero]; rfl), by go_grown⟩

end Go.Proofs.Ytlmlmkeomlehmaa

namespace Go.Proofs.Ytlmlmkeomlehmaa
open Go.RowKit

theorem check_big (u : Upd) (h : u.key.length < 1 ∨ 16 < u.key.length ∨ 32 < u.val.length) : (13 : Int) = (u.check : Nat) := by rw [Upd.check, if_pos h]; rfl
theorem check_arg (u : Upd) (h : ¬ (u.key.length < 1 ∨ 16 < u.key.length ∨ 32 < u.val.length)) (k : u.kind < 1 ∨ 3 < u.kind ∨ (u.kind ≠ 1 ∧ u.val ≠ []) ∨ (u.kind ≠ 3 ∧ u.delta ≠ 0)) : (2 : Int) = (u.check : Nat) := by
  rw [Upd.check, if_neg h, if_pos k]; rfl
theorem check_fine (u : Upd) (h : ¬ (u.key.length < 1 ∨ 16 < u.key.length ∨ 32 < u.val.length)) (k : ¬ (u.kind < 1 ∨ 3 < u.kind ∨ (u.kind ≠ 1 ∧ u.val ≠ []) ∨ (u.kind ≠ 3 ∧ u.delta ≠ 0))) : (0 : Int) = (u.check : Nat) := by
  rw [Upd.check, if_neg h, if_neg k]; rfl

set_option maxHeartbeats 400000 in
theorem refCheck_any (u : Upd) (hu : u.Wf) (w : World) :
    Calls Try.prog 91 #[.agg #[.int .u8 u.kind, .string (S u.key), .string (S u.val), .int .u64 u.delta]] w fun e w' => e = .returned (.int .i64 u.check) ∧ Below w.heap.size w w' := by
  obtain ⟨hk, hd⟩ := hu
  by_cases h : u.key.length < 1 ∨ 16 < u.key.length ∨ 32 < u.val.length
  · have H := Lib.hid h
    clear h
    go_enter Try.func91, Try.ntmps91
    go_wp2
    all_goals first
      | (go_ret; exact ⟨ret_int (check_big u H.out), by go_grown⟩)
      | (exfalso; have := H.out; omega)
  · obtain ⟨h1, h2, h3⟩ : 1 ≤ u.key.length ∧ u.key.length ≤ 16 ∧ u.val.length ≤ 32 := by omega
    have H := Lib.hid h
    clear h
    go_enter Try.func91, Try.ntmps91
    go_wp2
    all_goals (go_ret; refine ⟨ret_int ?_, by go_grown⟩; go_light; (try simp only [bne_iff_ne, bne_eq_false_iff_eq, ne_eq] at *); by_cases hv : u.val = [])
    all_goals first
      | contradiction
      | exact check_fine u H.out (by simp [hv]; omega)
      | exact check_arg u H.out (by simp [hv]; omega)

theorem refCheck (kd : Nat) (key val : List UInt8) (dl : Nat) (hk : kd < 256) (hd : dl < 18446744073709551616) (w : World) :
    Calls Try.prog 91 #[.agg #[.int .u8 kd, .string (S key), .string (S val), .int .u64 dl]] w fun e w' => e = .returned (.int .i64 (Upd.mk kd key val dl).check) ∧ Below w.heap.size w w' :=
  refCheck_any ⟨kd, key, val, dl⟩ ⟨hk, hd⟩ w

end Go.Proofs.Ytlmlmkeomlehmaa

namespace Go.Proofs.Ytlmlmkeomlehmaa
open Go.RowKit

theorem textAcc_step {acc : List UInt8} {l : List Upd} {i : Nat} (hi : i < l.length) (h : (l[i]).check = 0) : textAcc acc (l.drop i) = textAcc (acc ++ (l[i]).bytes) (l.drop (i + 1)) := by
  rw [List.drop_eq_getElem_cons hi, textAcc, if_pos h]
theorem textAcc_stop {acc : List UInt8} {l : List Upd} {i : Nat} (hi : i < l.length) (h : ¬ (l[i]).check = 0) : textAcc acc (l.drop i) = ([], (l[i]).check) := by
  rw [List.drop_eq_getElem_cons hi, textAcc, if_neg h]

set_option maxHeartbeats 1000000 in
theorem refText_any (ao : Option Addr) (cap : Nat) (l : List Upd) (w : World) (hl : l.length ≤ 1000000) (hw : ∀ u ∈ l, u.Wf) (hs : SlAt Upd.cells 4 w ao l) :
    Calls Try.prog 59 #[.slice ao l.length cap] w fun e w' => e = .returned (.tuple #[.string (S (textAcc [] l).1), .int .i64 (textAcc [] l).2]) ∧ Below w.heap.size w w' := by
  have hcv := fun w n c => run_str1 (P := Try.prog) 54 9 5 Try.underlying54 Try.underlying5 Try.underlying9 w n c
  have hcv2 := fun w n c => run_str2 (P := Try.prog) 54 9 5 Try.underlying54 Try.underlying5 Try.underlying9 w n c
  go_enter Try.func59, Try.ntmps59
  go_wp2
  go_loopw [4, 5] (fun s i wr => ∃ (j : Nat) (acc : List UInt8), j ≤ l.length ∧ Hid (textAcc acc (l.drop j) = textAcc [] l) ∧ acc.length ≤ j * 64 ∧ s = .string (S acc) ∧ i = .int .i64 j ∧ Below w.heap.size w wr) (fun _ i _ => l.length - (intOf i).toNat)
  case atStart => exact ⟨0, [], Nat.zero_le _, rfl, by simp, rfl, rfl, by go_grown⟩
  case round =>
    obtain ⟨j, acc, hj, hacc, hal, rfl, rfl, hB⟩ := hrel
    have hz := hB.size
    by_cases hlt : j < l.length
    · obtain ⟨b, off, rfl, hbl, hcs⟩ := (hs.kept hB (Nat.le_refl _)).at (by omega)
      obtain ⟨c0, c1, c2, c3⟩ := updCells hcs j hlt
      have hwf := hw _ (List.getElem_mem hlt)
      have hst := fun h => textAcc_step (acc := acc) hlt h
      have hsp := fun h => textAcc_stop (acc := acc) hlt h
      clear hcs hs hw
      generalize l[j] = u at c0 c1 c2 c3 hwf hst hsp
      obtain ⟨kd, key, val, dl⟩ := u
      obtain ⟨hk, hd⟩ := hwf
      dsimp only at c0 c1 c2 c3 hk hd
      by_cases hc : (Upd.mk kd key val dl).check = 0
      · have hst' := Lib.hid (hst hc)
        clear hsp hst
        obtain ⟨k1, k2, k3, k4, k5, _, _⟩ := Upd.check_ok hc
        dsimp only at k1 k2 k3 k4 k5
        have Hc := Lib.hid hc
        have hlt' : (j : Int) < l.length := by omega
        clear hc
        rcases (show kd = 1 ∨ kd = 2 ∨ kd = 3 by omega) with rfl | rfl | rfl
        · go_wp2_with (go_at_call 91; refine (thread (refCheck _ _ _ _ hk hd _) w.heap.size w (by go_grown) (by go_grown)).mono ?_; rintro e w1 ⟨rfl, hB1, hc1, hf1, hs1, hz1⟩; rw [Hc.out]; have hl1 : wr.heap.size < w1.heap.size := Nat.lt_of_lt_of_le (by simp) hs1)
          go_roundw
          case rel => exact ⟨j + 1, acc ++ (Upd.mk 1 key val dl).bytes, by omega, hst'.out.symm.trans hacc.out, by simp [Upd.bytes]; omega, by simp [Upd.bytes], by go_num, by go_grown⟩
          case measure => simp [intOf]; omega
        · go_wp2_with (go_at_call 91; refine (thread (refCheck _ _ _ _ hk hd _) w.heap.size w (by go_grown) (by go_grown)).mono ?_; rintro e w1 ⟨rfl, hB1, hc1, hf1, hs1, hz1⟩; rw [Hc.out]; have hl1 : wr.heap.size < w1.heap.size := Nat.lt_of_lt_of_le (by simp) hs1)
          go_roundw
          case rel => exact ⟨j + 1, acc ++ (Upd.mk 2 key val dl).bytes, by omega, hst'.out.symm.trans hacc.out, by simp [Upd.bytes]; omega, by simp [Upd.bytes], by go_num, by go_grown⟩
          case measure => simp [intOf]; omega
        · go_wp2_with (first | (go_at_call 91; refine (thread (refCheck _ _ _ _ hk hd _) w.heap.size w (by go_grown) (by go_grown)).mono ?_; rintro e w1 ⟨rfl, hB1, hc1, hf1, hs1, hz1⟩; rw [Hc.out]; have hl1 : wr.heap.size < w1.heap.size := Nat.lt_of_lt_of_le (by simp) hs1) | (go_at_call 90; refine (thread (put_any dl hd 8 (by omega) (by omega) _) w.heap.size w (by go_grown) (by go_grown)).mono ?_; rintro e w2 ⟨rfl, hB2, hc2, hf2, hs2, hz2⟩))
          go_roundw
          case rel => exact ⟨j + 1, acc ++ (Upd.mk 3 key val dl).bytes, by omega, hst'.out.symm.trans hacc.out, by simp [Upd.bytes]; omega, by simp [Upd.bytes], by go_num, by go_grown⟩
          case measure => simp [intOf]; omega
      · have hsp' := Lib.hid (hsp hc)
        have hne : ((((Upd.mk kd key val dl).check : Nat) : Int) != 0) = true := by simpa using hc
        clear hst hsp hc
        go_wp2_with (go_at_call 91; refine (thread (refCheck _ _ _ _ hk hd _) w.heap.size w (by go_grown) (by go_grown)).mono ?_; rintro e w1 ⟨rfl, hB1, hc1, hf1, hs1, hz1⟩)
        go_ret2
        exact ⟨ret_val (by rw [← hacc.out, hsp'.out]; rfl), by go_grown⟩
    · obtain rfl : j = l.length := by omega
      go_wp2
      go_ret2
      exact ⟨ret_val (by rw [← hacc.out]; simp [textAcc]), by go_grown⟩

end Go.Proofs.Ytlmlmkeomlehmaa

namespace Go.Proofs.Ytlmlmkeomlehmaa
open Go.RowKit

set_option maxRecDepth 100000 in
set_option maxHeartbeats 1000000 in
theorem refSplit_any (s : List UInt8) (hs : s.length ≤ 1000000) (w : World) : Calls Try.prog 65 #[.string (S s)] w fun e w' => e = .returned (splitV s) ∧ Below w.heap.size w w' := by
  cases s with
  | nil =>
    go_enter Try.func65, Try.ntmps65
    go_wp2_with fail
    go_ret3
    exact ⟨rfl, Below.refl _ _⟩
  | cons b r =>
    have hb : (b.toNat : Int) < 256 := by have := b.toNat_lt; omega
    have hl : (S (b :: r)).size = r.length + 1 := by rw [S_size]; rfl
    rw [List.length_cons] at hs
    by_cases h : r.length < b.toNat
    · have h' : (r.length : Int) + 1 < 1 + (b.toNat : Int) := by omega
      have hv : Hid (splitV (b :: r) = .tuple #[.string ByteArray.empty, .string ByteArray.empty, .bool false]) := Lib.hid (by simp only [splitV, splitL, if_pos h]; rfl)
      clear h
      go_enter Try.func65, Try.ntmps65
      go_wp2_with fail
      go_ret3
      exact ⟨ret_val (by rw [hv.out]; rfl), Below.refl _ _⟩
    · have h' : ¬ (r.length : Int) + 1 < 1 + (b.toNat : Int) := by omega
      have h2 : (b.toNat : Int) ≤ (r.length : Int) := by omega
      have hv : Hid (splitV (b :: r) = .tuple #[.string (S (r.take b.toNat)), .string (S (r.drop b.toNat)), .bool true]) := Lib.hid (by simp only [splitV, splitL, if_neg h])
      clear h
      go_enter Try.func65, Try.ntmps65
      go_wp2_with fail
      go_region
      go_wp2_with fail
      go_ret3
      refine ⟨ret_val ?_, by go_grown⟩
      rw [hv.out]
      show Value.tuple #[.string (S (List.take (1 + b.toNat - 1) r)), .string (S (List.take (r.length + 1 - (1 + b.toNat)) (List.drop (1 + b.toNat) (b :: r)))), .bool true] = _
      rw [Nat.add_sub_cancel_left, Nat.add_comm 1, List.drop_succ_cons, List.take_of_length_le (l := List.drop b.toNat r) (by rw [List.length_drop]; omega)]

end Go.Proofs.Ytlmlmkeomlehmaa

namespace Go.Proofs.Ytlmlmkeomlehmaa
open Go.RowKit

/-- An update in a box. -/
structure UAt (w : World) (g : Nat) (x : Upd) : Prop where
  c0 : w.cell? ⟨g, 0, none⟩ = some (.int .u8 x.kind)
  c1 : w.cell? ⟨g, 1, none⟩ = some (.string (S x.key))
  c2 : w.cell? ⟨g, 2, none⟩ = some (.string (S x.val))
  c3 : w.cell? ⟨g, 3, none⟩ = some (.int .u64 x.delta)
  free : ∀ i, w.frozen? ⟨g, i, none⟩ = false
  lt : g < w.heap.size
theorem UAt.new (w : World) (t : TypeId) : UAt (w.alloc (.cells #[.int .u8 0, .string ByteArray.empty, .string ByteArray.empty, .int .u64 0] t)) w.heap.size ⟨0, [], [], 0⟩ :=
  ⟨by simp, by simp; rfl, by simp; rfl, by simp, fun i => by simp, by simp⟩
theorem UAt.on {w w' : World} {g B : Nat} {x : Upd} (h : UAt w g x) (hb : Below B w w') (hB : g < B) : UAt w' g x :=
  ⟨(hb.cell (p := ⟨g, 0, none⟩) hB).trans h.c0, (hb.cell (p := ⟨g, 1, none⟩) hB).trans h.c1, (hb.cell (p := ⟨g, 2, none⟩) hB).trans h.c2, (hb.cell (p := ⟨g, 3, none⟩) hB).trans h.c3, fun i => (hb.frozen (p := ⟨g, i, none⟩) hB).trans (h.free i), Nat.lt_of_lt_of_le h.lt hb.size⟩
theorem UAt.far {w : World} {g : Nat} {x : Upd} (h : UAt w g x) {p : Addr} (hp : p.block ≠ g) (v : Value) : UAt (w.setCell p v) g x :=
  ⟨(World.cell?_setCell_far w p _ v hp).trans h.c0, (World.cell?_setCell_far w p _ v hp).trans h.c1, (World.cell?_setCell_far w p _ v hp).trans h.c2, (World.cell?_setCell_far w p _ v hp).trans h.c3, fun i => by rw [World.frozen?_setCell]; exact h.free i, by rw [World.size_setCell]; exact h.lt⟩
theorem off_ne {g i j : Nat} (h : i ≠ j) : (⟨g, i, none⟩ : Addr) ≠ ⟨g, j, none⟩ := fun e => h (by injection e)
theorem UAt.setKey {w : World} {g : Nat} {x : Upd} (h : UAt w g x) (k : List UInt8) : UAt (w.setCell ⟨g, 1, none⟩ (.string (S k))) g ⟨x.kind, k, x.val, x.delta⟩ :=
  ⟨(World.cell?_setCell_other w _ _ _ (off_ne (by decide))).trans h.c0, World.cell?_setCell_same w _ _ h.c1, (World.cell?_setCell_other w _ _ _ (off_ne (by decide))).trans h.c2, (World.cell?_setCell_other w _ _ _ (off_ne (by decide))).trans h.c3, fun i => by rw [World.frozen?_setCell]; exact h.free i, by rw [World.size_setCell]; exact h.lt⟩
theorem UAt.setVal {w : World} {g : Nat} {x : Upd} (h : UAt w g x) (k : List UInt8) : UAt (w.setCell ⟨g, 2, none⟩ (.string (S k))) g ⟨x.kind, x.key, k, x.delta⟩ :=
  ⟨(World.cell?_setCell_other w _ _ _ (off_ne (by decide))).trans h.c0, (World.cell?_setCell_other w _ _ _ (off_ne (by decide))).trans h.c1, World.cell?_setCell_same w _ _ h.c2, (World.cell?_setCell_other w _ _ _ (off_ne (by decide))).trans h.c3, fun i => by rw [World.frozen?_setCell]; exact h.free i, by rw [World.size_setCell]; exact h.lt⟩
theorem UAt.setDelta {w : World} {g : Nat} {x : Upd} (h : UAt w g x) (d : Nat) : UAt (w.setCell ⟨g, 3, none⟩ (.int .u64 d)) g ⟨x.kind, x.key, x.val, d⟩ :=
  ⟨(World.cell?_setCell_other w _ _ _ (off_ne (by decide))).trans h.c0, (World.cell?_setCell_other w _ _ _ (off_ne (by decide))).trans h.c1, (World.cell?_setCell_other w _ _ _ (off_ne (by decide))).trans h.c2, World.cell?_setCell_same w _ _ h.c3, fun i => by rw [World.frozen?_setCell]; exact h.free i, by rw [World.size_setCell]; exact h.lt⟩
theorem UAt.of (w : World) (t : TypeId) (k : Nat) (key : List UInt8) : UAt (w.alloc (.cells #[.int .u8 k, .string (S key), .string ByteArray.empty, .int .u64 0] t)) w.heap.size ⟨k, key, [], 0⟩ :=
  ⟨by simp, by simp, by simp; rfl, by simp, fun i => by simp, by simp⟩
theorem UAt.full (w : World) (g : Nat) (hg : w.heap.size = g) (x : Upd) (t : TypeId) : UAt (w.alloc (.cells #[.int .u8 x.kind, .string (S x.key), .string (S x.val), .int .u64 x.delta] t)) g x := by
  subst hg
  exact ⟨by simp, by simp, by simp, by simp, fun i => by simp, by simp⟩
theorem UAt.alloc {w : World} {g : Nat} {x : Upd} (h : UAt w g x) (o : Obj) : UAt (w.alloc o) g x := h.on ((Below.refl w.heap.size w).alloc (Nat.le_refl _) o) h.lt

end Go.Proofs.Ytlmlmkeomlehmaa

namespace Go.Proofs.Ytlmlmkeomlehmaa
open Go.RowKit

theorem infoBld : (Try.prog.info? 116).map (·.size) = some 2 := by kernel_rfl
theorem infoByte : (Try.prog.info? 5).map (fun i => (i.zero, i.size, i.bytes)) = some (some (.int .u8 0), 1, 1) := by kernel_rfl
set_option maxHeartbeats 1000000 in
set_option maxRecDepth 100000 in
theorem bld_used (b : Nat) (w : World) (h0 : w.cell? ⟨b, 0, none⟩ = some (.pointer (some ⟨b, 0, none⟩))) :
    Calls Try.prog 87 #[.pointer (some ⟨b, 0, none⟩)] w fun e w' => e = .returned (.tuple #[]) ∧ w' = w := by
  obtain ⟨j, hj, _⟩ := Option.map_eq_some_iff.1 infoBld
  go_enter Try.func87, Try.ntmps87
  go_wp2_with fail
  rw [Lib.run_neq_ptr_same w _ Try.underlying114 hj]
  go_wp2_with fail
  exact bodyPost_end (v := .tuple #[]) (by simp [results, Try.results87, go_sem]) rfl ⟨rfl, rfl⟩
set_option maxHeartbeats 1000000 in
set_option maxRecDepth 100000 in
theorem bld_fresh (b : Nat) (w : World) (h0 : w.cell? ⟨b, 0, none⟩ = some (.pointer none)) (hsh : w.shape? b = some (116, 2)) (hfz : w.frozen? ⟨b, 0, none⟩ = false) :
    Calls Try.prog 87 #[.pointer (some ⟨b, 0, none⟩)] w fun e w' => e = .returned (.tuple #[]) ∧ w' = w.setCell ⟨b, 0, none⟩ (.pointer (some ⟨b, 0, none⟩)) := by
  obtain ⟨j, hj, hjs⟩ := Option.map_eq_some_iff.1 infoBld
  go_enter Try.func87, Try.ntmps87
  go_wp2_with fail
  rw [Lib.run_to_unsafe w ⟨b, 0, none⟩ Try.underlying114 Try.underlying192 hj (by rw [hjs]; decide) hsh (Nat.zero_lt_succ 1)]
  simp only [Result.andThen]
  rw [Oper.upon_value]
  go_wp2_with fail
  rw [run_callFunc_extern Try.func118 (by kernel_rfl) (by kernel_rfl) (by kernel_rfl) (e := Extern.AbiNoEscape.same) (by kernel_rfl)]
  rw [Lib.run_noEscape]
  simp only [Result.andThen]
  rw [Oper.upon_value]
  go_wp2_with fail
  rw [Lib.run_from_unsafe w ⟨b, 0, none⟩ Try.underlying192 Try.underlying114 hj hsh (by kernel_rfl)]
  simp only [Result.andThen]
  rw [Oper.upon_value]
  go_wp2_with fail
  exact bodyPost_end (v := .tuple #[]) (by simp [results, Try.results87, go_sem]) rfl ⟨rfl, rfl⟩
abbrev IsB (B b : Nat) (bs : List Value) (w : World) : Prop := Lib.IsBuilder 116 5 B b bs w
abbrev BAt (B b : Nat) (p : Value) (bs : List Value) (w : World) : Prop := Lib.BuilderAt 116 5 B b p bs w
theorem bld_check (B b : Nat) (bs : List Value) (w : World) (h : IsB B b bs w) :
    Calls Try.prog 87 #[.pointer (some ⟨b, 0, none⟩)] w fun e w' => e = .returned (.tuple #[]) ∧ BAt B b (.pointer (some ⟨b, 0, none⟩)) bs w' ∧ Below B w w' := by
  rcases h with h | h
  · refine (bld_fresh b w h.cell0 h.shape h.frozen0).mono ?_
    rintro e w' ⟨rfl, rfl⟩
    exact ⟨rfl, h.used _, (Below.refl B w).setCell (p := ⟨b, 0, none⟩) h.1 _⟩
  · refine (bld_used b w h.cell0).mono ?_
    rintro e w' ⟨rfl, rfl⟩
    exact ⟨rfl, h, Below.refl B _⟩
set_option maxHeartbeats 1000000 in
set_option maxRecDepth 100000 in
/-- WriteString: the bytes are laid behind. -/
theorem bld_write (B b : Nat) (bs : List Value) (s : ByteArray) (w : World) (h : IsB B b bs w) (hlen : bs.length + s.size ≤ 140737488355328) (hBw : B ≤ w.heap.size) :
    Calls Try.prog 55 #[.pointer (some ⟨b, 0, none⟩), .string s] w fun e w' => e = .returned (.tuple #[.int .i64 s.size, .nilIface]) ∧ IsB B b (bs ++ Lib.strCells s) w' ∧ Below B w w' := by
  obtain ⟨i0, hi, hz0, hz1, hz2⟩ := info_parts infoByte
  go_enter Try.func55, Try.ntmps55
  go_wp2_with fail
  refine (bld_check B b bs _ h).mono ?_
  rintro e w1 ⟨rfl, h1, hb1⟩
  obtain ⟨hB, v, hbk, hown, hne⟩ := h1
  have c0 : w1.cell? ⟨b, 0, none⟩ = some (.pointer (some ⟨b, 0, none⟩)) := by rw [Lib.cell_of_heap hbk]; rfl
  have c1 : w1.cell? ⟨b, 1, none⟩ = some v := by rw [Lib.cell_of_heap hbk]; rfl
  go_wp2_with (at_builtin; refine Lib.wpList_append_own_string _ rfl _ _ 54 9 rfl B 5 i0 Try.underlying54 Try.underlying9 hi hz0 hz1 hz2 _ _ _ rfl hown s rfl ?c3 ?c4 ?c5 ?_)
  case c3 => unfold maxLen; omega
  case c4 => omega
  case c5 => have := hb1.size; omega
  intro v' w2 hown' hgrow _
  have hlt : b < w1.heap.size := by
    rcases Nat.lt_or_ge b w1.heap.size with h' | h'
    · exact h'
    · simp [Array.getElem?_eq_none h'] at hbk
  have hb2 : w2.heap[b]? = some (.cells #[.pointer (some ⟨b, 0, none⟩), v] 116 (0, 0)) := by
    rw [hgrow.block b hlt (fun e => hne e.symm)]
    exact hbk
  have d0 : w2.cell? ⟨b, 0, none⟩ = some (.pointer (some ⟨b, 0, none⟩)) := by rw [Lib.cell_of_heap hb2]; rfl
  have d1 : w2.cell? ⟨b, 1, none⟩ = some v := by rw [Lib.cell_of_heap hb2]; rfl
  have f1 : w2.frozen? ⟨b, 1, none⟩ = false := Lib.frozen_of_heap hb2 1
  obtain ⟨ao, n', cap, rfl⟩ : ∃ ao n' cap, v' = .slice ao n' cap := by
    rcases hown'.2 with ⟨hv, _⟩ | ⟨g, cap, cur, hv, _⟩
    · exact ⟨_, _, _, hv⟩
    · exact ⟨_, _, _, hv⟩
  go_wp2_with fail
  go_ret2
  refine ⟨rfl, Or.inr ?_, ?_⟩
  · exact Lib.BuilderAt.put (T := 116) (e := 5) hB hb2 (bs' := bs ++ Lib.strCells s) (by simpa [Lib.strCells_length] using hown') (by decide)
  · exact (hb1.grown hgrow (by have := hb1.size; omega) (fun k hk => (hown.lt k hk).1)).setCell (p := ⟨b, 1, none⟩) hB _
theorem unsafe_none (W : World) (q : Option Addr) : (Builtin.unsafeString_ #[161, 3] 9 #[.pointer q, .int .i64 0]).run Try.prog W = .ok (.string .empty) W := Lib.run_unsafeString_none W _ _ _ q
theorem cellsByte : Try.prog.cellsOf 5 = 1 := by kernel_rfl
set_option maxHeartbeats 2000000 in
set_option maxRecDepth 100000 in
theorem bld_some (B b g cap : Nat) (cur : Array Value) (p : Value) (l : List UInt8) (w : World) (h0 : l ≠ []) (hbk : w.heap[b]? = some (.cells #[p, .slice (some ⟨g, 0, none⟩) l.length cap] 116 (0, 0))) (hown : w.ownsRow B 5 1 (.slice (some ⟨g, 0, none⟩) l.length cap) l.length (Lib.byteCells l)) (hbg : B ≤ g) (hg : w.heap[g]? = some (.cells cur 5 (0, 0))) (hnc : l.length ≤ cap) (hcm : cap ≤ maxLen) (hcs : cur.size = cap * 1) :
    Calls Try.prog 57 #[.pointer (some ⟨b, 0, none⟩)] w fun e w' => e = .returned (.string ⟨l.toArray⟩) ∧ Below B w w' := by
  have hl0 : l.length ≠ 0 := by simpa using h0
  have c1 : w.drew.cell? ⟨b, 1, none⟩ = some (.slice (some ⟨g, 0, none⟩) l.length cap) := by
    have : w.drew.heap[b]? = some (.cells #[p, .slice (some ⟨g, 0, none⟩) l.length cap] 116 (0, 0)) := hbk
    rw [Lib.cell_of_heap this]; rfl
  have hSD : (Builtin.unsafeSliceData_ #[54] 161 #[.slice (some ⟨g, 0, none⟩) l.length cap]).run Try.prog w.drew = .ok (.pointer (some ⟨g, 0, none⟩)) w.drew :=
    Lib.run_unsafeSliceData_row _ _ _ _ _ _ (by omega)
  have hUS : (Builtin.unsafeString_ #[161, 3] 9 #[.pointer (some ⟨g, 0, none⟩), .int .i64 l.length]).run Try.prog w.drew = .ok (.string ⟨l.toArray⟩) (w.drew.freeze ⟨g, 0, none⟩ l.length) := by
    refine Lib.run_unsafeString_row w.drew 161 3 9 5 Try.underlying161 cellsByte g cur.size (by have hg' : w.drew.heap[g]? = some (.cells cur 5 (0, 0)) := hg; simp [World.shape?, hg']) l h0 (by omega) (by unfold maxLen at hcm; omega) ?_
    intro j x hx
    exact hown.cells (g := g) rfl j (.int .u8 x.toNat) (by simp [Lib.byteCells, hx])
  go_enter Try.func57, Try.ntmps57
  go_wp2_with fail
  go_region
  all_goals (go_wp2_with fail; go_ret; exact ⟨rfl, Lib.below_freeze (Below.drew (Below.refl B w)) (p := ⟨g, 0, none⟩) hbg _⟩)
set_option maxHeartbeats 2000000 in
set_option maxRecDepth 100000 in
theorem bld_nil (B b : Nat) (p : Value) (w : World) (hbk : w.heap[b]? = some (.cells #[p, .slice none 0 0] 116 (0, 0))) :
    Calls Try.prog 57 #[.pointer (some ⟨b, 0, none⟩)] w fun e w' => e = .returned (.string ⟨#[]⟩) ∧ Below B w w' := by
  have hUS := unsafe_none
  have c1 : w.drew.cell? ⟨b, 1, none⟩ = some (.slice none 0 0) := by
    have : w.drew.heap[b]? = some (.cells #[p, .slice none 0 0] 116 (0, 0)) := hbk
    rw [Lib.cell_of_heap this]; rfl
  have hSD : (Builtin.unsafeSliceData_ #[54] 161 #[.slice none 0 0]).run Try.prog w.drew = .ok (.pointer none) w.drew := rfl
  go_enter Try.func57, Try.ntmps57
  go_wp2_with fail
  go_region
  all_goals (go_wp2_with fail; go_ret; exact ⟨rfl, Below.drew (Below.refl B w)⟩)
set_option maxHeartbeats 2000000 in
set_option maxRecDepth 100000 in
theorem bld_full (B b g : Nat) (p : Value) (cur : Array Value) (w : World) (hBw : B ≤ w.heap.size) (hbk : w.heap[b]? = some (.cells #[p, .slice (some ⟨g, 0, none⟩) 0 0] 116 (0, 0))) (hg : w.heap[g]? = some (.cells cur 5 (0, 0))) :
    Calls Try.prog 57 #[.pointer (some ⟨b, 0, none⟩)] w fun e w' => e = .returned (.string ⟨#[]⟩) ∧ Below B w w' := by
  have hUS := unsafe_none
  have hlt : b < w.heap.size := by
    rcases Nat.lt_or_ge b w.heap.size with h' | h'
    · exact h'
    · simp [Array.getElem?_eq_none h'] at hbk
  have c1 : w.drew.cell? ⟨b, 1, none⟩ = some (.slice (some ⟨g, 0, none⟩) 0 0) := by
    have : w.drew.heap[b]? = some (.cells #[p, .slice (some ⟨g, 0, none⟩) 0 0] 116 (0, 0)) := hbk
    rw [Lib.cell_of_heap this]; rfl
  have hSD : (Builtin.unsafeSliceData_ #[54] 161 #[.slice (some ⟨g, 0, none⟩) 0 0]).run Try.prog w.drew = .ok (.pointer (some ⟨w.drew.heap.size, 0, none⟩)) (w.drew.alloc (.view ⟨g, 0, none⟩ 5)) :=
    Lib.run_unsafeSliceData_zero w.drew _ _ 5 Try.underlying161 ⟨g, 0, none⟩ 0 (5, cur.size) (by have hg' : w.drew.heap[g]? = some (.cells cur 5 (0, 0)) := hg; simp [World.shape?, hg'])
  have c2 : (w.drew.alloc (.view ⟨g, 0, none⟩ 5)).cell? ⟨b, 1, none⟩ = some (.slice (some ⟨g, 0, none⟩) 0 0) := by
    have : (w.drew.alloc (.view ⟨g, 0, none⟩ 5)).heap[b]? = _ := (Lib.alloc_old w.drew _ b hlt).trans hbk
    rw [Lib.cell_of_heap this]; rfl
  have c3 : (w.alloc (.view ⟨g, 0, none⟩ 5)).drew.cell? ⟨b, 1, none⟩ = some (.slice (some ⟨g, 0, none⟩) 0 0) := c2
  have c0 : w.cell? ⟨b, 1, none⟩ = some (.slice (some ⟨g, 0, none⟩) 0 0) := c1
  go_enter Try.func57, Try.ntmps57
  go_wp2_with fail
  go_region
  all_goals (go_wp2_with fail; go_ret; exact ⟨rfl, (Below.drew (Below.refl B w)).alloc hBw _⟩)
set_option maxHeartbeats 2000000 in
set_option maxRecDepth 100000 in
theorem bld_room (B b g cap : Nat) (p : Value) (w : World) (hc0 : cap ≠ 0) (hbk : w.heap[b]? = some (.cells #[p, .slice (some ⟨g, 0, none⟩) 0 cap] 116 (0, 0))) :
    Calls Try.prog 57 #[.pointer (some ⟨b, 0, none⟩)] w fun e w' => e = .returned (.string ⟨#[]⟩) ∧ Below B w w' := by
  have hUS := unsafe_none
  have c1 : w.drew.cell? ⟨b, 1, none⟩ = some (.slice (some ⟨g, 0, none⟩) 0 cap) := by
    have : w.drew.heap[b]? = some (.cells #[p, .slice (some ⟨g, 0, none⟩) 0 cap] 116 (0, 0)) := hbk
    rw [Lib.cell_of_heap this]; rfl
  have hSD : (Builtin.unsafeSliceData_ #[54] 161 #[.slice (some ⟨g, 0, none⟩) 0 cap]).run Try.prog w.drew = .ok (.pointer (some ⟨g, 0, none⟩)) w.drew :=
    Lib.run_unsafeSliceData_row _ _ _ _ _ _ hc0
  clear hc0
  go_enter Try.func57, Try.ntmps57
  go_wp2_with fail
  go_region
  all_goals (go_wp2_with fail; go_ret; exact ⟨rfl, Below.drew (Below.refl B w)⟩)
/-- String, whatever the builder holds. -/
theorem bld_string (B b : Nat) (l : List UInt8) (w : World) (h : IsB B b (Lib.byteCells l) w) (hBw : B ≤ w.heap.size) :
    Calls Try.prog 57 #[.pointer (some ⟨b, 0, none⟩)] w fun e w' => e = .returned (.string ⟨l.toArray⟩) ∧ Below B w w' := by
  obtain ⟨p, hB, v, hbk, hown, hne⟩ : ∃ p, BAt B b p (Lib.byteCells l) w := by
    rcases h with h | h
    · exact ⟨_, h⟩
    · exact ⟨_, h⟩
  rw [Lib.byteCells_length] at hown
  rcases id hown.2 with ⟨rfl, hz⟩ | ⟨g, cap, cur, rfl, hbg, hg, hnc, hcm, hcs, _⟩
  · obtain rfl := List.eq_nil_of_length_eq_zero hz
    exact bld_nil B b p w hbk
  · by_cases h0 : l = []
    · subst h0
      by_cases hc0 : cap = 0
      · subst hc0
        exact bld_full B b g p cur w hBw hbk hg
      · exact bld_room B b g cap p w hc0 hbk
    · exact bld_some B b g cap cur p l w h0 hbk hown hbg hg hnc hcm hcs
/-- A text with its length ahead. -/
def joinT (s : List UInt8) : List UInt8 := [UInt8.ofNat s.length] ++ s
set_option maxHeartbeats 1000000 in
theorem lendJoin_any (s : List UInt8) (hs : s.length ≤ 255) (w : World) :
    Calls Try.prog 84 #[.string (S s)] w fun e w' => e = .returned (.tuple #[.string (S (joinT s)), .bool true]) ∧ Below w.heap.size w w' := by
  have hcv := fun w n c => run_str1 (P := Try.prog) 54 9 5 Try.underlying54 Try.underlying5 Try.underlying9 w n c
  have h1 : ¬ (255 : Int) < (s.length : Int) := by omega
  have hw8 : IntKind.u8.wrap (s.length : Int) = (s.length : Int) := by rw [IntKind.wrap_u8]; omega
  go_enter Try.func84, Try.ntmps84
  go_wp2_with fail
  go_ret2
  exact ⟨by simp [joinT], by go_grown⟩
theorem strCells_S (l : List UInt8) : Lib.strCells (S l) = Lib.byteCells l := by simp [Lib.strCells, Lib.byteCells, S]
theorem IsB.on {B b : Nat} {bs : List Value} {w w' : World} (h : IsB B b bs w) (hb : Below w.heap.size w w') : IsB B b bs w' := by
  have key : ∀ p, BAt B b p bs w → BAt B b p bs w' := fun p ⟨hB, v, hbk, hown, hne⟩ => by
    have hlt : b < w.heap.size := by
      rcases Nat.lt_or_ge b w.heap.size with h' | h'
      · exact h'
      · simp [Array.getElem?_eq_none h'] at hbk
    exact ⟨hB, v, (hb.block b hlt).trans hbk, own_below hown hb, hne⟩
  rcases h with h | h
  · exact Or.inl (key _ h)
  · exact Or.inr (key _ h)
theorem joinT_len (s : List UInt8) : (joinT s).length = s.length + 1 := by simp [joinT]
theorem byteCells_app (a b : List UInt8) : Lib.byteCells (a ++ b) = Lib.byteCells a ++ Lib.byteCells b := by simp [Lib.byteCells]

end Go.Proofs.Ytlmlmkeomlehmaa

namespace Go.Proofs.Ytlmlmkeomlehmaa
open Go.RowKit

set_option maxRecDepth 100000 in
set_option maxHeartbeats 2000000 in
theorem chk_big (u : Upd) (h : u.key.length < 1 ∨ 16 < u.key.length ∨ 32 < u.val.length) (w : World) :
    Calls Try.prog 114 #[.agg #[.int .u8 u.kind, .string (S u.key), .string (S u.val), .int .u64 u.delta]] w fun e w' => e = .returned (.int .i64 u.check) ∧ Below w.heap.size w w' := by
  have H := Lib.hid (check_big u h)
  by_cases h0 : u.key = []
  · have he : u.key.isEmpty = true := by rw [h0]; rfl
    clear h
    go_enter Try.func114, Try.ntmps114
    go_wp2
    all_goals (go_ret; exact ⟨ret_int H.out, by go_grown⟩)
  · have he : u.key.isEmpty = false := by cases hk : u.key <;> simp [hk] at h0 ⊢
    by_cases h1 : 16 < u.key.length
    · clear h
      go_enter Try.func114, Try.ntmps114
      go_wp2
      all_goals (go_ret; exact ⟨ret_int H.out, by go_grown⟩)
    · have h2 : 32 < u.val.length := by
        rcases h with h | h | h
        · exact absurd (List.eq_nil_of_length_eq_zero (by omega)) h0
        · exact absurd h h1
        · exact h
      clear h
      go_enter Try.func114, Try.ntmps114
      go_wp2
      all_goals (go_ret; exact ⟨ret_int H.out, by go_grown⟩)

set_option maxRecDepth 100000 in
set_option maxHeartbeats 2000000 in
theorem chk_fits (u : Upd) (h : ¬ (u.key.length < 1 ∨ 16 < u.key.length ∨ 32 < u.val.length)) (hu : u.Wf) (w : World) :
    Calls Try.prog 114 #[.agg #[.int .u8 u.kind, .string (S u.key), .string (S u.val), .int .u64 u.delta]] w fun e w' => e = .returned (.int .i64 u.check) ∧ Below w.heap.size w w' := by
  obtain ⟨hk, hd⟩ := hu
  obtain ⟨h1, h2, h3⟩ : 1 ≤ u.key.length ∧ u.key.length ≤ 16 ∧ u.val.length ≤ 32 := by omega
  have he : u.key.isEmpty = false := by cases hk : u.key <;> simp [hk] at h1 ⊢
  have H := Lib.hid h
  clear h
  go_enter Try.func114, Try.ntmps114
  go_wp2
  all_goals (go_ret; refine ⟨ret_int ?_, by go_grown⟩; go_light; (try simp only [bne_iff_ne, bne_eq_false_iff_eq, ne_eq] at *); by_cases hv : u.val = [])
  all_goals first
    | contradiction
    | exact check_fine u H.out (by simp [hv]; omega)
    | exact check_arg u H.out (by simp [hv]; omega)

theorem chk (kd : Nat) (key val : List UInt8) (dl : Nat) (hk : kd < 256) (hd : dl < 18446744073709551616) (w : World) :
    Calls Try.prog 114 #[.agg #[.int .u8 kd, .string (S key), .string (S val), .int .u64 dl]] w fun e w' => e = .returned (.int .i64 (Upd.mk kd key val dl).check) ∧ Below w.heap.size w w' := by
  by_cases h : key.length < 1 ∨ 16 < key.length ∨ 32 < val.length
  · exact chk_big ⟨kd, key, val, dl⟩ h w
  · exact chk_fits ⟨kd, key, val, dl⟩ h ⟨hk, hd⟩ w

end Go.Proofs.Ytlmlmkeomlehmaa
