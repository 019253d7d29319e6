/-
  The plain words of layer 18 (plan): when a plan may be, how many bytes its full node and leaf have, its check and its best. No program in sight.
-/
namespace Go.Proofs.Ytfnjomhefklbiaa.PlanL

/-- May a plan be? -/
def right (F B L : Int) : Bool := decide (3 ≤ F ∧ F ≤ 16 ∧ F ≤ B ∧ B ≤ 64 ∧ 2 ≤ L ∧ L ≤ 64)
/-- May a size be? -/
def sized (n : Int) : Bool := decide (128 ≤ n ∧ n ≤ 1024)
/-- The room of a size's block. -/
def room (n : Int) : Int := if 128 ≤ n ∧ n ≤ 1024 then n - 24 else 0
def nodeBytes (F B L : Int) : Int := if right F B L = true then 1 + 33 * F + 51 * B else 0
def leafBytes (F B L : Int) : Int := if right F B L = true then 50 * L else 0
def least (F B L : Int) : Int := if right F B L = true then B / F else 0
/-- The answer of a plan's check. -/
def check (F B L n : Int) : Int :=
  if right F B L = false ∨ n < 128 ∨ 1024 < n then 2
  else if n - 24 < 1 + 33 * F + 51 * B ∨ n - 24 < 50 * L then 20 else 0

theorem right_iff (F B L : Int) : right F B L = true ↔ (3 ≤ F ∧ F ≤ 16 ∧ F ≤ B ∧ B ≤ 64 ∧ 2 ≤ L ∧ L ≤ 64) := by simp [right]
theorem right_not (F B L : Int) : right F B L = false ↔ ¬ (3 ≤ F ∧ F ≤ 16 ∧ F ≤ B ∧ B ≤ 64 ∧ 2 ≤ L ∧ L ≤ 64) := by
  unfold right; exact decide_eq_false_iff_not

/-- The best buffer and leaf of a size and a fanout. -/
def bB (n F : Int) : Int := if 64 ≤ (n - 24 - 1 - F * 33) / 51 then 64 else (n - 24 - 1 - F * 33) / 51
def bL (n : Int) : Int := if 64 ≤ (n - 24) / 50 then 64 else (n - 24) / 50
/-- The best plan, and its error. -/
def best (n F : Int) : Int × Int × Int × Int :=
  if n < 128 ∨ 1024 < n ∨ F < 3 ∨ 16 < F then (0, 0, 0, 2)
  else if check F (bB n F) (bL n) n = 0 then (F, bB n F, bL n, 0) else (0, 0, 0, 20)

theorem check_zero (F B L n : Int) : check F B L n = 0 ↔ 3 ≤ F ∧ F ≤ 16 ∧ F ≤ B ∧ B ≤ 64 ∧ 2 ≤ L ∧ L ≤ 64 ∧ 128 ≤ n ∧ n ≤ 1024 ∧ 1 + 33 * F + 51 * B ≤ n - 24 ∧ 50 * L ≤ n - 24 := by
  unfold check
  by_cases h : right F B L = true
  · have hb := (right_iff F B L).1 h
    by_cases hn : n < 128 ∨ 1024 < n
    · rw [if_pos (by omega)]; omega
    · rw [if_neg (by rw [h]; simp; omega)]
      by_cases hk : n - 24 < 1 + 33 * F + 51 * B ∨ n - 24 < 50 * L
      · rw [if_pos hk]; omega
      · rw [if_neg hk]; omega
  · have hf : right F B L = false := by simpa using h
    have hb := (right_not F B L).1 hf
    rw [if_pos (Or.inl hf)]; omega
theorem check_cases (F B L n : Int) : check F B L n = 0 ∨ check F B L n = 2 ∨ check F B L n = 20 := by
  unfold check; split
  · simp
  · split <;> simp
/-- What has more has no room. -/
theorem best_more (n F b l : Int) (h : check F b l n = 0) : b ≤ bB n F ∧ l ≤ bL n := by
  rw [check_zero] at h
  unfold bB bL
  constructor <;> split <;> omega
theorem best_some (n F b l : Int) (h : check F b l n = 0) : check F (bB n F) (bL n) n = 0 := by
  rw [check_zero] at h ⊢
  unfold bB bL
  refine ⟨by omega, by omega, ?_, ?_, ?_, ?_, by omega, by omega, ?_, ?_⟩ <;> split <;> omega

end Go.Proofs.Ytfnjomhefklbiaa.PlanL
