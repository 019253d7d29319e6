/-
  The plain laws of a cursor: what is left of the source, and what Next tells of it.
-/
import Derived.Test.YthcjcmalfnfjkaaSka
namespace Go.Proofs.Ythcjcmalfnfjkaa
open Go.RowKit
set_option linter.unusedVariables false

/-- What is still to come. -/
def remL (L : List Ent) (C : CurS) : List Ent := L.filter (withinE C.place C.high)
structure CurOk (L : List Ent) (C : CurS) : Prop where
  rise : Rising Ent.key L
  left : C.left = (remL L C).take C.left.length
  over : C.over = true → C.left = remL L C
  chunk : 1 ≤ C.chunk
theorem bl_snoc (a : List UInt8) : bl a (a ++ [0]) = true := by
  induction a with
  | nil => rfl
  | cons x t ih => rw [List.cons_append, bl_cons]; exact Or.inr ⟨rfl, ih⟩
/-- The least key above one. -/
theorem bl_after : ∀ (k a : List UInt8), bl k (a ++ [0]) = true ↔ k = a ∨ bl k a = true
  | [], [] => by simp [bl, Op.bytesLess]
  | [], y :: a => by simp [bl, Op.bytesLess]
  | x :: k, [] => by
    constructor
    · intro h
      rw [List.nil_append, bl_cons] at h
      rcases h with h | ⟨-, h⟩
      · exact absurd h (by simp [UInt8.lt_iff_toNat_lt])
      · rw [bl_nil] at h; exact absurd h (by simp)
    · rintro (h | h)
      · simp at h
      · rw [bl_nil] at h; exact absurd h (by simp)
  | x :: k, y :: a => by
    rw [List.cons_append, bl_cons, bl_cons, bl_after k a]
    constructor
    · rintro (h | ⟨rfl, h | h⟩)
      · exact Or.inr (Or.inl h)
      · exact Or.inl (by rw [h])
      · exact Or.inr (Or.inr ⟨rfl, h⟩)
    · rintro (h | h | ⟨rfl, h⟩)
      · simp at h; obtain ⟨rfl, rfl⟩ := h; exact Or.inr ⟨rfl, Or.inl rfl⟩
      · exact Or.inl h
      · exact Or.inr ⟨rfl, Or.inr h⟩
theorem remL_rise {L : List Ent} {C : CurS} (h : Rising Ent.key L) : Rising Ent.key (remL L C) := List.Pairwise.filter _ h
/-- Behind the first one, its successors are left. -/
theorem rem_tail : ∀ (L : List Ent) (lo hi : List UInt8) (x : Ent) (t : List Ent), Rising Ent.key L → L.filter (withinE lo hi) = x :: t → L.filter (withinE (x.key ++ [0]) hi) = t
  | [], _, _, _, _, _, h => by simp at h
  | y :: L, lo, hi, x, t, hr, h => by
    obtain ⟨h1, h2⟩ := hr.cons
    by_cases hw : withinE lo hi y = true
    · rw [List.filter_cons_of_pos hw] at h
      injection h with e1 e2
      subst e1
      have hn : withinE (y.key ++ [0]) hi y = false := by unfold withinE; rw [show bl y.key (y.key ++ [0]) = true from bl_snoc _]; rfl
      rw [List.filter_cons_of_neg (by rw [hn]; simp), ← e2]
      apply List.filter_congr
      intro z hz
      have hyz := h1 z hz
      unfold withinE at hw ⊢
      simp only [Bool.and_eq_true, Bool.not_eq_true'] at hw
      have a1 : bl z.key (y.key ++ [0]) = false := by
        cases e : bl z.key (y.key ++ [0]) with
        | false => rfl
        | true =>
          rcases (bl_after _ _).1 e with e | e
          · exact absurd e.symm (bl_ne hyz)
          · rw [bl_asymm hyz] at e; exact absurd e (by simp)
      have a2 : bl z.key lo = false := by
        cases e : bl z.key lo with
        | false => rfl
        | true => have := bl_trans hyz e; rw [hw.1] at this; exact absurd this (by simp)
      rw [a1, a2]
    · rw [List.filter_cons_of_neg hw] at h
      have ih := rem_tail L lo hi x t h2 h
      have hx : x ∈ L.filter (withinE lo hi) := by rw [h]; simp
      have hyx := h1 x (List.mem_filter.1 hx).1
      rw [List.filter_cons_of_neg, ih]
      unfold withinE
      rw [show bl y.key (x.key ++ [0]) = true from (bl_after _ _).2 (Or.inr hyx)]
      simp
theorem take_own (r : List Ent) (c : Nat) : r.take c = r.take (r.take c).length := by
  rw [List.length_take]
  by_cases h : c ≤ r.length
  · rw [Nat.min_eq_left h]
  · rw [Nat.min_eq_right (by omega), List.take_length, List.take_of_length_le (by omega)]
theorem fill_spec {L : List Ent} {fail : Int} {A : List Int} {C : CurS} (h : CurOk L C) :
    (fillS L fail A C).2.2.place = C.place ∧ (fillS L fail A C).2.2.high = C.high ∧ (fillS L fail A C).2.2.chunk = C.chunk ∧ CurOk L (fillS L fail A C).2.2 ∧ ((fillS L fail A C).1 = 0 → (fillS L fail A C).2.2.left = [] → remL L C = []) := by
  unfold fillS
  split
  · rename_i h1
    refine ⟨rfl, rfl, rfl, h, fun _ hl => ?_⟩
    rcases h1 with h1 | h1
    · exact absurd hl h1
    · rw [← h.over h1]; exact hl
  · rename_i h1
    split
    · exact ⟨rfl, rfl, rfl, h, fun e => by simp at e⟩
    · have hs : scanL L C.place C.high C.chunk = (remL L C).take C.chunk := by unfold scanL remL; simp
      refine ⟨rfl, rfl, rfl, ⟨h.rise, ?_, fun ho => ?_, h.chunk⟩, fun _ hl => ?_⟩
      · show scanL L C.place C.high C.chunk = (remL L C).take (scanL L C.place C.high C.chunk).length
        rw [hs]; exact take_own _ _
      · show scanL L C.place C.high C.chunk = remL L C
        have ho' : (scanL L C.place C.high C.chunk).length < C.chunk := by simpa using ho
        rw [hs] at ho' ⊢
        rw [List.length_take] at ho'
        exact List.take_of_length_le (by omega)
      · have hl' : scanL L C.place C.high C.chunk = [] := hl
        rw [hs] at hl'
        have hc := h.chunk
        cases hr : remL L C with
        | nil => rfl
        | cons x t =>
          rw [hr] at hl'
          obtain ⟨m, hm⟩ : ∃ m, C.chunk = m + 1 := ⟨C.chunk - 1, by omega⟩
          rw [hm] at hl'
          simp at hl'
theorem pop_spec {L : List Ent} {C : CurS} (h : CurOk L C) (hl : C.left = [] → remL L C = []) :
    (popS C).1 = (remL L C).head? ∧ remL L (popS C).2 = (remL L C).tail ∧ CurOk L (popS C).2 ∧ (popS C).2.high = C.high ∧ (popS C).2.chunk = C.chunk := by
  unfold popS
  cases hC : C.left with
  | nil =>
    have := hl hC
    dsimp only
    rw [this]
    exact ⟨rfl, by simp, h, rfl, rfl⟩
  | cons x t =>
    dsimp only
    have h1 := h.left
    rw [hC] at h1
    cases hr : remL L C with
    | nil => rw [hr] at h1; simp at h1
    | cons y r =>
      rw [hr, List.length_cons, List.take_succ_cons] at h1
      injection h1 with e1 e2
      subst e1
      have hrem : remL L { C with left := t, place := x.key ++ [0] } = r := rem_tail L C.place C.high x r h.rise hr
      refine ⟨rfl, by rw [hrem]; rfl, ⟨h.rise, by rw [hrem]; exact e2, fun ho => ?_, h.chunk⟩, rfl, rfl⟩
      have := h.over ho
      rw [hr, hC] at this
      injection this with _ e3
      rw [hrem]; exact e3
/-- Next: an error where the source fails, else the first one of what is left. -/
theorem next_spec {L : List Ent} {fail : Int} {A : List Int} {C : CurS} (h : CurOk L C) :
    CurOk L (nextS L fail A C).2.2.2 ∧ (nextS L fail A C).2.2.2.high = C.high ∧ (nextS L fail A C).2.2.2.chunk = C.chunk ∧
    (((nextS L fail A C).2.1 = 0 ∧ (nextS L fail A C).1 = (remL L C).head? ∧ remL L (nextS L fail A C).2.2.2 = (remL L C).tail) ∨ ((nextS L fail A C).2.1 = 10 ∧ (nextS L fail A C).1 = none ∧ remL L (nextS L fail A C).2.2.2 = remL L C ∧ fail = (A.length : Int) + 1)) := by
  obtain ⟨h1, h2, h3, h4, h5⟩ := fill_spec (fail := fail) (A := A) h
  have hfe : (fillS L fail A C).1 = 0 ∨ ((fillS L fail A C).1 = 10 ∧ fail = (A.length : Int) + 1) := by
    unfold fillS
    split
    · exact Or.inl rfl
    · split
      · exact Or.inr ⟨rfl, by assumption⟩
      · exact Or.inl rfl
  unfold nextS
  generalize fillS L fail A C = R at *
  obtain ⟨e, A', C'⟩ := R
  dsimp only at *
  have hrem : remL L C' = remL L C := by unfold remL; rw [h1, h2]
  rcases hfe with rfl | ⟨rfl, hf⟩
  · rw [if_pos rfl]
    obtain ⟨g1, g2, g3, g4, g5⟩ := pop_spec h4 (fun hl => by rw [hrem]; exact h5 rfl hl)
    rw [hrem] at g1 g2
    exact ⟨g3, g4.trans h2, g5.trans h3, Or.inl ⟨rfl, g1, g2⟩⟩
  · rw [if_neg (by decide)]
    exact ⟨h4, h2, h3, Or.inr ⟨rfl, rfl, hrem, hf⟩⟩

/-- All that is left, at most so many. -/
def restS (L : List Ent) (fail : Int) : Nat → List Int → CurS → List Ent → List Ent × Nat × List Int × CurS
  | 0, A, C, o => (o, 0, A, C)
  | n + 1, A, C, o =>
    match nextS L fail A C with
    | (some x, _, A', C') => restS L fail n A' C' (o ++ [x])
    | (none, 0, A', C') => (o, 0, A', C')
    | (none, e + 1, A', C') => ([], e + 1, A', C')
theorem restS_go {L : List Ent} {fail : Int} {n : Nat} {A A' : List Int} {C C' : CurS} {o : List Ent} {x : Ent} {e : Nat} (h : nextS L fail A C = (some x, e, A', C')) : restS L fail (n + 1) A C o = restS L fail n A' C' (o ++ [x]) := by
  rw [restS, h]
theorem restS_end {L : List Ent} {fail : Int} {n : Nat} {A A' : List Int} {C C' : CurS} {o : List Ent} (h : nextS L fail A C = (none, 0, A', C')) : restS L fail (n + 1) A C o = (o, 0, A', C') := by
  rw [restS, h]
theorem nextS_asks (L : List Ent) (fail : Int) (A : List Int) (C : CurS) : (nextS L fail A C).2.2.1 = (fillS L fail A C).2.1 := by
  unfold nextS
  dsimp only
  split <;> rfl
theorem fillS_asks (L : List Ent) (fail : Int) (A : List Int) (C : CurS) : (fillS L fail A C).2.1.length ≤ A.length + 1 := by
  unfold fillS
  split
  · simp
  · split <;> simp
/-- Over a source that doesn't fail: just the first ones of what is left. -/
theorem rest_spec {L : List Ent} {fail : Int} (hf : fail ≤ 0) : ∀ (n : Nat) (A : List Int) (C : CurS) (o : List Ent), CurOk L C →
    (restS L fail n A C o).1 = o ++ (remL L C).take n ∧ (restS L fail n A C o).2.1 = 0 ∧ CurOk L (restS L fail n A C o).2.2.2 ∧ remL L (restS L fail n A C o).2.2.2 = (remL L C).drop n ∧ (restS L fail n A C o).2.2.2.chunk = C.chunk ∧ (restS L fail n A C o).2.2.1.length ≤ A.length + n
  | 0, A, C, o, h => ⟨by simp [restS], rfl, h, by simp [restS], rfl, by simp [restS]⟩
  | n + 1, A, C, o, h => by
    obtain ⟨h1, h2, h3, h4⟩ := next_spec (fail := fail) (A := A) h
    have ha := nextS_asks L fail A C
    have hb := fillS_asks L fail A C
    rw [← ha] at hb
    clear ha
    generalize hR : nextS L fail A C = R at *
    obtain ⟨x, e, A', C'⟩ := R
    dsimp only at *
    rcases h4 with ⟨rfl, h5, h6⟩ | ⟨-, -, -, h7⟩
    · cases hr : remL L C with
      | nil =>
        rw [hr] at h5 h6
        simp at h5
        subst h5
        rw [restS_end hR]
        dsimp only
        exact ⟨by simp, rfl, h1, by rw [h6]; simp, h3, by omega⟩
      | cons y t =>
        rw [hr] at h5 h6
        simp at h5
        subst h5
        rw [restS_go hR]
        obtain ⟨g1, g2, g3, g4, g5, g6⟩ := rest_spec hf n A' C' (o ++ [y]) h1
        refine ⟨by rw [g1, h6]; simp, g2, g3, by rw [g4, h6]; simp, g5.trans h3, by omega⟩
    · omega

end Go.Proofs.Ythcjcmalfnfjkaa
