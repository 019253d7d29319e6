/-
  The plain law behind SeekTells: how often the source is asked.
-/
import Derived.Test.YthcjcmalfnfjkaaSkp
namespace Go.Proofs.Ythcjcmalfnfjkaa
open Go.RowKit
set_option linter.unusedVariables false

structure TeAt (L R : List Ent) (n j : Nat) (A : List Int) (C : CurS) : Prop where
  ok : CurOk L C
  rem : remL L C = R.drop j
  chunk : C.chunk = n
  asks : A = List.replicate A.length (n : Int)
  num : (A.length = 0 ∧ j = 0 ∧ C.left = [] ∧ C.over = false) ∨ (0 < A.length ∧ j + C.left.length = min (A.length * n) R.length ∧ (C.over = true ↔ R.length < A.length * n) ∧ (A.length - 1) * n ≤ j)
theorem rep_snoc (A : List Int) (n : Nat) (h : A = List.replicate A.length (n : Int)) : A ++ [(n : Int)] = List.replicate (A ++ [(n : Int)]).length (n : Int) := by
  rw [List.length_append, List.length_singleton, List.replicate_succ', ← h]
/-- Behind fill. -/
theorem fill_te {L R : List Ent} {n j : Nat} {A : List Int} {C : CurS} (h : TeAt L R n j A C) (hj : j ≤ R.length) :
    (fillS L 0 A C).1 = 0 ∧ TeAt L R n j (fillS L 0 A C).2.1 (fillS L 0 A C).2.2 ∧ (0 < (fillS L 0 A C).2.1.length ∧ j + (fillS L 0 A C).2.2.left.length = min ((fillS L 0 A C).2.1.length * n) R.length ∧ ((fillS L 0 A C).2.2.over = true ↔ R.length < (fillS L 0 A C).2.1.length * n) ∧ ((fillS L 0 A C).2.1.length - 1) * n ≤ j) ∧ ((fillS L 0 A C).2.2.left = [] → j = R.length ∧ (fillS L 0 A C).2.2.over = true) := by
  have hc := h.ok.chunk
  rw [h.chunk] at hc
  have hsp := (fill_spec (fail := 0) (A := A) h.ok)
  have hrem' : remL L (fillS L 0 A C).2.2 = R.drop j := by
    rw [← h.rem]; unfold remL; rw [hsp.1, hsp.2.1]
  have hl0 := h.ok.left
  by_cases hfull : C.left ≠ [] ∨ C.over = true
  · have e : fillS L 0 A C = (0, A, C) := by unfold fillS; rw [if_pos hfull]
    rw [e]
    dsimp only
    rcases h.num with ⟨h1, h2, h3, h4⟩ | h5
    · rcases hfull with hf | hf
      · exact absurd h3 hf
      · rw [h4] at hf; exact absurd hf (by simp)
    · refine ⟨rfl, h, h5, fun hl => ?_⟩
      rcases hfull with hf | hf
      · exact absurd hl hf
      · have h6 := h5.2.2.1.1 hf
        have h7 := h5.2.1
        rw [hl] at h7
        simp at h7
        exact ⟨by omega, hf⟩
  · have hle : C.left = [] := by
      by_cases e : C.left = []
      · exact e
      · exact absurd (Or.inl e) hfull
    have hov : C.over = false := by
      cases e : C.over with
      | false => rfl
      | true => exact absurd (Or.inr e) hfull
    have hnf : ¬ ((0 : Int) = (A.length : Int) + 1) := by omega
    have e : fillS L 0 A C = (0, A ++ [(C.chunk : Int)], { C with left := scanL L C.place C.high C.chunk, over := decide ((scanL L C.place C.high C.chunk).length < C.chunk) }) := by unfold fillS; rw [if_neg hfull, if_neg hnf]
    have hs : scanL L C.place C.high C.chunk = (R.drop j).take n := by
      have : scanL L C.place C.high C.chunk = (remL L C).take C.chunk := by unfold scanL remL; simp
      rw [this, h.rem, h.chunk]
    have hok := hsp.2.2.2.1
    rw [e, hs, h.chunk] at hok hrem' ⊢
    dsimp only at *
    have hlen : ((R.drop j).take n).length = min n (R.length - j) := by rw [List.length_take, List.length_drop]
    have hjm : j = min (A.length * n) R.length ∧ A.length * n ≤ j := by
      rcases h.num with ⟨h1, h2, -, -⟩ | ⟨h1, h2, h3, h4⟩
      · rw [h1, h2]; simp
      · rw [hle] at h2
        simp at h2
        have h5 : ¬ R.length < A.length * n := fun h6 => by rw [h3.2 h6] at hov; exact absurd hov (by simp)
        omega
    have hm1 : (A ++ [(n : Int)]).length * n = A.length * n + n := by rw [List.length_append, List.length_singleton, Nat.add_mul, Nat.one_mul]
    have hm2 : ((A ++ [(n : Int)]).length - 1) * n = A.length * n := by rw [List.length_append, List.length_singleton, Nat.add_sub_cancel]
    have hnum : 0 < (A ++ [(n : Int)]).length ∧ j + ((R.drop j).take n).length = min ((A ++ [(n : Int)]).length * n) R.length ∧ (decide (((R.drop j).take n).length < n) = true ↔ R.length < (A ++ [(n : Int)]).length * n) ∧ ((A ++ [(n : Int)]).length - 1) * n ≤ j := by
      rw [hm1, hm2, hlen]
      refine ⟨by simp, by omega, ?_, hjm.2⟩
      rw [decide_eq_true_iff]
      omega
    refine ⟨rfl, ⟨hok, hrem', rfl, rep_snoc A n h.asks, Or.inr hnum⟩, hnum, fun hl => ?_⟩
    have h6 : min n (R.length - j) = 0 := by rw [← hlen, hl]; rfl
    refine ⟨by omega, ?_⟩
    rw [decide_eq_true_iff, hlen]
    omega
theorem next_tells {L R : List Ent} {n j : Nat} {A : List Int} {C : CurS} (h : TeAt L R n j A C) (hj : j < R.length) :
    ∃ A' C', nextS L 0 A C = (some R[j], 0, A', C') ∧ TeAt L R n (j + 1) A' C' ∧ A'.length ≤ A.length + 1 := by
  obtain ⟨h1, h2, h3, h4⟩ := fill_te h (by omega)
  have ha := fillS_asks L 0 A C
  unfold nextS
  dsimp only
  rw [if_pos h1]
  generalize fillS L 0 A C = Q at *
  obtain ⟨e, A', C'⟩ := Q
  dsimp only at *
  cases hl : C'.left with
  | nil => have := (h4 hl).1; omega
  | cons x t =>
    have hp := pop_spec h2.ok (fun e => by rw [hl] at e; simp at e)
    unfold popS at hp ⊢
    rw [hl] at hp
    dsimp only at hp ⊢
    rw [h2.rem, List.drop_eq_getElem_cons hj] at hp
    obtain ⟨p1, p2, p3, p4, p5⟩ := hp
    simp only [List.head?_cons, Option.some.injEq] at p1
    subst p1
    refine ⟨A', _, by rw [hl], ⟨p3, p2, h2.chunk, h2.asks, Or.inr ⟨h3.1, ?_, h3.2.2.1, ?_⟩⟩, ha⟩
    · have := h3.2.1
      rw [hl, List.length_cons] at this
      show j + 1 + t.length = _
      omega
    · have := h3.2.2.2
      omega
theorem next_done {L R : List Ent} {n : Nat} {A : List Int} {C : CurS} (h : TeAt L R n R.length A C) :
    ∃ A' C', nextS L 0 A C = (none, 0, A', C') ∧ TeAt L R n R.length A' C' ∧ A' = List.replicate (R.length / n + 1) (n : Int) := by
  obtain ⟨h1, h2, h3, h4⟩ := fill_te h (Nat.le_refl _)
  unfold nextS
  dsimp only
  rw [if_pos h1]
  generalize fillS L 0 A C = Q at *
  obtain ⟨e, A', C'⟩ := Q
  dsimp only at *
  have hlen : C'.left = [] := by
    have := h3.2.1
    exact List.length_eq_zero_iff.1 (by omega)
  unfold popS
  rw [hlen]
  refine ⟨A', C', rfl, h2, ?_⟩
  have ho := h3.2.2.1.1 (h4 hlen).2
  have hb := h3.2.2.2
  have hn : 1 ≤ n := by have := h2.ok.chunk; rw [h2.chunk] at this; exact this
  have hq : R.length / n = A'.length - 1 := by
    rw [Nat.div_eq_iff (by omega)]
    have e2 : A'.length * n = (A'.length - 1) * n + n := by
      have : A'.length = (A'.length - 1) + 1 := by omega
      conv => lhs; rw [this, Nat.add_mul, Nat.one_mul]
    omega
  rw [hq, show A'.length - 1 + 1 = A'.length by omega]
  exact h2.asks
theorem te_start {L R : List Ent} {n : Nat} {lo hi : List UInt8} (hr : Rising Ent.key L) (hR : L.filter (withinE lo hi) = R) (hn : 1 ≤ n) : TeAt L R n 0 [] ⟨lo, hi, n, [], false⟩ :=
  ⟨⟨hr, rfl, fun e => by simp at e, hn⟩, by unfold remL; rw [hR]; simp, rfl, rfl, Or.inl ⟨rfl, rfl, rfl, rfl⟩⟩

end Go.Proofs.Ythcjcmalfnfjkaa
