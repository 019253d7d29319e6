/-
  Updates that tame made stay such in a buffer: plain laws.
-/
import Derived.Test.YtcjeonamebnpfaaTmP
import Derived.Test.YtcjeonamebnpfaaOrdL
import Derived.Test.YtcjeonamebnpfaaTwoA
namespace Go.Proofs.Ytcjeonamebnpfaa
open Go.RowKit

theorem tame_tm (u : Upd) (h : u.Wf) : Tm (tameL u) := by
  obtain ⟨h1, h2, h3⟩ := tame_fits u h
  refine ⟨h1, ?_, ?_, ?_, h2, ?_, h3⟩
  · show 1 + u.kind % 3 = 1 ∨ 1 + u.kind % 3 = 2 ∨ 1 + u.kind % 3 = 3
    omega
  · show 1 + u.kind % 3 = 1 ∨ (if 1 + u.kind % 3 = 1 then u.val.take _ else []) = []
    by_cases h : 1 + u.kind % 3 = 1
    · exact Or.inl h
    · exact Or.inr (if_neg h)
  · show 1 + u.kind % 3 = 3 ∨ (if 1 + u.kind % 3 = 3 then u.delta else 0) = 0
    by_cases h : 1 + u.kind % 3 = 3
    · exact Or.inl h
    · exact Or.inr (if_neg h)
  · show 1 ≤ ((u.key ++ [107]).take _).length
    rw [List.length_take, List.length_append, List.length_singleton]; omega
theorem withL_tm {l : List Upd} (hr : Rising Upd.key l) (hf : ∀ x ∈ l, Tm x) (u : Upd) (hu : Tm u) : ∀ x ∈ withL l u, Tm x := by
  cases h : hasKey Upd.key l u.key with
  | false =>
    rw [withL_new h]
    intro x hx
    rcases insU_mem.1 hx with rfl | hx
    · exact hu
    · exact hf x hx
  | true =>
    obtain ⟨i, hi, hk, e⟩ := withL_old hr h
    rw [e]
    intro x hx
    rcases List.mem_or_eq_of_mem_set hx with hx | rfl
    · exact hf x hx
    · exact joinL_tm (hf _ (List.getElem_mem hi)) hu
theorem tm_fine {l : List Upd} (hf : ∀ x ∈ l, Tm x) : Fine l := fun x hx => ⟨(hf x hx).wf, by have := (hf x hx).vlen; omega⟩
theorem tm_empty {l : List Upd} (hf : ∀ x ∈ l, Tm x) : hasKey Upd.key l [] = false := by
  rw [Bool.eq_false_iff]
  intro h
  obtain ⟨x, hx, e⟩ := hasKey_iff.1 h
  have := (hf x hx).kpos
  rw [e] at this
  exact absurd this (by simp)

/-- Two values whose rows are not the same. -/
def ApartV (a b : Value) : Prop := ∀ k, a.ownBlock = some k → b.ownBlock ≠ some k
theorem ApartV.symm {a b : Value} (h : ApartV a b) : ApartV b a := fun k e e' => h k e' e
theorem ApartV.keep {a b : Value} (h : ApartV a b) : b.ownBlock = none ∨ b.ownBlock ≠ a.ownBlock := by
  cases hb : b.ownBlock with
  | none => exact Or.inl rfl
  | some k => exact Or.inr fun e => h k e.symm hb
/-- Two rows of a call's own, of one kind, that are apart. -/
structure TwoR (base : Nat) (E : TypeId) (W0 W : World) (A M : Value) (na nm : Nat) (xa xm : List Value) : Prop where
  own1 : W.ownsRow base E 4 A na xa
  own2 : W.ownsRow base E 4 M nm xm
  below : Below base W0 W
  le : base ≤ W.heap.size
  apart : ApartV A M
section
variable {base : Nat} {E : TypeId} {W0 W w' : World} {A M : Value} {na nm : Nat} {xa xm : List Value}
theorem TwoR.on (h : TwoR base E W0 W A M na nm xa xm) (hb : Below W.heap.size W w') : TwoR base E W0 w' A M na nm xa xm :=
  ⟨own_below h.own1 hb, own_below h.own2 hb, h.below.trans (hb.mono h.le), Nat.le_trans h.le hb.size, h.apart⟩
theorem TwoR.symm (h : TwoR base E W0 W A M na nm xa xm) : TwoR base E W0 W M A nm na xm xa :=
  ⟨h.own2, h.own1, h.below, h.le, h.apart.symm⟩
theorem TwoR.app (h : TwoR base E W0 W A M na nm xa xm) {v' : Value} {n' : Nat} {x' : List Value} (ho : w'.ownsRow base E 4 v' n' x') (hg : W.grownBy w' A.ownBlock) (hb : v'.ownBlock = A.ownBlock ∨ v'.ownBlock = some W.heap.size) : TwoR base E W0 w' v' M n' nm x' xm := by
  refine ⟨ho, h.own2.kept hg h.apart.keep, below_grown h.below hg (fun k e => (h.own1.lt k e).1) h.le, Nat.le_trans h.le hg.size, fun k e e' => ?_⟩
  rcases hb with hb | hb
  · exact h.apart k (hb.symm.trans e) e'
  · rw [hb] at e
    injection e with e
    have := (h.own2.lt k e').2
    omega
end
/-- What Cut has put into both rows: the ones ahead. -/
theorem filter_take {α : Type} (p : α → Bool) (l : List α) (j : Nat) (hj : j < l.length) : (l.take (j + 1)).filter p = if p l[j] then (l.take j).filter p ++ [l[j]] else (l.take j).filter p := by
  rw [List.take_succ_eq_append_getElem hj, List.filter_append]
  cases h : p l[j] <;> simp [h]
theorem filter_le {α : Type} (p : α → Bool) (l : List α) (j : Nat) : ((l.take j).filter p).length ≤ l.length := by
  refine Nat.le_trans (List.length_filter_le _ _) ?_
  rw [List.length_take]; omega

end Go.Proofs.Ytcjeonamebnpfaa
