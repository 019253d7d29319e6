/-
  The plain words of layer 12 (rec): updates, whether they may be, and their bytes. No program in sight.
-/
namespace Go.Proofs.Ytcjeonamebnpfaa

structure Upd where
  kind : Nat
  key : List UInt8
  val : List UInt8
  delta : Nat

namespace Upd
/-- Whether an update may be: 0, or the error's number. -/
def check (u : Upd) : Nat :=
  if u.key.length < 1 ∨ 16 < u.key.length ∨ 32 < u.val.length then 13
  else if u.kind < 1 ∨ 3 < u.kind ∨ (u.kind ≠ 1 ∧ u.val ≠ []) ∨ (u.kind ≠ 3 ∧ u.delta ≠ 0) then 2 else 0
theorem check_ok {u : Upd} (h : u.check = 0) : 1 ≤ u.key.length ∧ u.key.length ≤ 16 ∧ u.val.length ≤ 32 ∧ 1 ≤ u.kind ∧ u.kind ≤ 3 ∧ (u.kind = 1 ∨ u.val = []) ∧ (u.kind = 3 ∨ u.delta = 0) := by
  unfold check at h
  split at h
  · simp at h
  · split at h
    · simp at h
    · rename_i h1 h2
      have e1 : ¬ (u.kind ≠ 1 ∧ u.val ≠ []) := fun e => h2 (Or.inr (Or.inr (Or.inl e)))
      have e2 : ¬ (u.kind ≠ 3 ∧ u.delta ≠ 0) := fun e => h2 (Or.inr (Or.inr (Or.inr e)))
      refine ⟨by omega, by omega, by omega, by omega, by omega, ?_, by omega⟩
      by_cases hk : u.kind = 1
      · exact Or.inl hk
      · refine Or.inr ?_
        by_cases hv : u.val = []
        · exact hv
        · exact (e1 ⟨hk, hv⟩).elim
end Upd

end Go.Proofs.Ytcjeonamebnpfaa
