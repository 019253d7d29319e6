/-
  The updates of bytes: plain laws, no program in sight.
-/
import Derived.Test.YtcjeonamebnpfaaPrsS
import Derived.Test.YtcjeonamebnpfaaLendR
import Derived.Test.YtcjeonamebnpfaaRecU
import Derived.Test.YtcjeonamebnpfaaOrd
namespace Go.Proofs.Ytcjeonamebnpfaa
open Go.RowKit

/-- The update at the head of bytes whose first one is b; what is left. -/
def restU (b : UInt8) (key more : List UInt8) : Option (Upd × List UInt8) :=
  if b.toNat = 1 then (if (splitL more).2.2 then some (⟨1, key, (splitL more).1, 0⟩, (splitL more).2.1) else none)
  else if b.toNat = 3 then (if more.length < 8 then none else some (⟨3, key, [], numL (more.take 8)⟩, more.drop 8))
  else some (⟨b.toNat, key, [], 0⟩, more)
def stepU (s : List UInt8) : Option (Upd × List UInt8) :=
  match s with
  | [] => none
  | b :: r => if (splitL r).2.2 then (match restU b (splitL r).1 (splitL r).2.1 with
    | none => none
    | some (u, m) => if u.check = 0 then some (u, m) else none) else none
theorem restU_len {b : UInt8} {key more m : List UInt8} {u : Upd} (h : restU b key more = some (u, m)) : m.length ≤ more.length := by
  unfold restU at h
  have h1 := (splitL_len more).1
  split at h
  · split at h
    · simp only [Option.some.injEq, Prod.mk.injEq] at h; rw [← h.2]; exact h1
    · simp at h
  · split at h
    · split at h
      · simp at h
      · simp only [Option.some.injEq, Prod.mk.injEq] at h; rw [← h.2, List.length_drop]; omega
    · simp only [Option.some.injEq, Prod.mk.injEq] at h; rw [← h.2]; exact Nat.le_refl _
theorem stepU_len {s m : List UInt8} {u : Upd} (h : stepU s = some (u, m)) : m.length + 1 ≤ s.length := by
  unfold stepU at h
  split at h
  · simp at h
  · rename_i b r
    split at h
    · split at h
      · simp at h
      · rename_i u' m' hr
        split at h
        · simp only [Option.some.injEq, Prod.mk.injEq] at h
          have h1 := restU_len hr
          have h2 := (splitL_len r).1
          rw [h.2] at h1
          rw [List.length_cons]; omega
        · simp at h
    · simp at h
theorem numL_take (l : List UInt8) (hl : 8 ≤ l.length) : numL (l.take 8) < 18446744073709551616 := by
  have := numL_lt (l.take 8)
  rw [List.length_take, Nat.min_eq_left hl] at this
  exact this
theorem restU_wf {b : UInt8} {key more m : List UInt8} {u : Upd} (h : restU b key more = some (u, m)) : u.Wf := by
  have hb := b.toNat_lt
  unfold restU at h
  split at h
  · split at h
    · simp only [Option.some.injEq, Prod.mk.injEq] at h; rw [← h.1]; exact ⟨by show (1 : Nat) < 256; decide, by show (0 : Nat) < _; decide⟩
    · simp at h
  · split at h
    · split at h
      · simp at h
      · simp only [Option.some.injEq, Prod.mk.injEq] at h; rw [← h.1]; exact ⟨by show (3 : Nat) < 256; decide, numL_take more (by omega)⟩
    · simp only [Option.some.injEq, Prod.mk.injEq] at h; rw [← h.1]; exact ⟨hb, by show (0 : Nat) < _; decide⟩
theorem stepU_ok {s m : List UInt8} {u : Upd} (h : stepU s = some (u, m)) : u.Wf ∧ u.check = 0 := by
  unfold stepU at h
  split at h
  · simp at h
  · split at h
    · split at h
      · simp at h
      · rename_i u' m' hr
        split at h
        · rename_i hc
          simp only [Option.some.injEq, Prod.mk.injEq] at h
          rw [← h.1]
          exact ⟨restU_wf hr, hc⟩
        · simp at h
    · simp at h

def rawUN : Nat → List UInt8 → Option (List Upd)
  | 0, _ => some []
  | n + 1, s => if s = [] then some [] else match stepU s with
    | none => none
    | some (e, r) => (rawUN n r).map fun l => e :: l
theorem rawUN_same : ∀ (n m : Nat) (s : List UInt8), s.length ≤ n → s.length ≤ m → rawUN n s = rawUN m s
  | 0, 0, _, _, _ => rfl
  | 0, m + 1, s, h, _ => by
    have : s = [] := List.eq_nil_of_length_eq_zero (by omega)
    simp [rawUN, this]
  | n + 1, 0, s, _, h => by
    have : s = [] := List.eq_nil_of_length_eq_zero (by omega)
    simp [rawUN, this]
  | n + 1, m + 1, s, h, k => by
    unfold rawUN
    by_cases h0 : s = []
    · simp [h0]
    · rw [if_neg h0, if_neg h0]
      cases hs : stepU s with
      | none => rfl
      | some p =>
        obtain ⟨e, r⟩ := p
        have := stepU_len hs
        simp only
        rw [rawUN_same n m r (by omega) (by omega)]
def rawU (s : List UInt8) : Option (List Upd) := rawUN s.length s
theorem rawU_nil : rawU [] = some [] := rfl
theorem rawU_none {s : List UInt8} (h0 : s ≠ []) (h : stepU s = none) : rawU s = none := by
  unfold rawU
  cases hl : s.length with
  | zero => exact absurd (List.eq_nil_of_length_eq_zero hl) h0
  | succ n => simp [rawUN, h0, h]
theorem rawU_some {s r : List UInt8} {e : Upd} (h0 : s ≠ []) (h : stepU s = some (e, r)) : rawU s = (rawU r).map fun l => e :: l := by
  have hlt := stepU_len h
  unfold rawU
  cases hl : s.length with
  | zero => exact absurd (List.eq_nil_of_length_eq_zero hl) h0
  | succ n =>
    conv => lhs; unfold rawUN
    rw [if_neg h0, h]
    simp only
    rw [rawUN_same n r.length r (by omega) (Nat.le_refl _)]
theorem rawU_more {s0 s r : List UInt8} {acc : List Upd} {e : Upd} (h : rawU s0 = (rawU s).map fun l => acc ++ l) (h0 : s ≠ []) (k : stepU s = some (e, r)) : rawU s0 = (rawU r).map fun l => (acc ++ [e]) ++ l := by
  rw [h, rawU_some h0 k]
  cases rawU r <;> simp
theorem rawU_stop {s0 s : List UInt8} {acc : List Upd} (h : rawU s0 = (rawU s).map fun l => acc ++ l) (h0 : s ≠ []) (k : stepU s = none) : rawU s0 = none := by
  rw [h, rawU_none h0 k]; rfl
theorem rawU_end {s0 : List UInt8} {acc : List Upd} (h : rawU s0 = (rawU []).map fun l => acc ++ l) : rawU s0 = some acc := by
  rw [h, rawU_nil]; simp
theorem rawUN_all : ∀ (n : Nat) (s : List UInt8) (l : List Upd), rawUN n s = some l → l.length ≤ n ∧ ∀ u ∈ l, u.Wf ∧ u.check = 0
  | 0, _, l, h => by simp only [rawUN, Option.some.injEq] at h; rw [← h]; exact ⟨Nat.le_refl _, fun u hu => by simp at hu⟩
  | n + 1, s, l, h => by
    unfold rawUN at h
    split at h
    · simp only [Option.some.injEq] at h; rw [← h]; exact ⟨Nat.zero_le _, fun u hu => by simp at hu⟩
    · split at h
      · simp at h
      · rename_i e r hs
        cases hr : rawUN n r with
        | none => rw [hr] at h; simp at h
        | some t =>
          rw [hr] at h
          simp only [Option.map_some, Option.some.injEq] at h
          obtain ⟨h1, h2⟩ := rawUN_all n r t hr
          rw [← h]
          refine ⟨by rw [List.length_cons]; omega, fun u hu => ?_⟩
          rcases List.mem_cons.1 hu with rfl | hu
          · exact stepU_ok hs
          · exact h2 u hu

/-- Are updates by rising keys? -/
def risingB (l : List Upd) : Bool := decide (l.Pairwise fun a b => bl a.key b.key = true)
theorem risingB_iff (l : List Upd) : risingB l = true ↔ Rising Upd.key l := by
  unfold risingB Rising
  rw [decide_eq_true_iff]
/-- The updates of bytes, and the error's number. -/
def recU (s : List UInt8) : List Upd × Nat :=
  match rawU s with
  | none => ([], 4)
  | some l => (l, 0)
/-- The buffer of bytes, and the error's number. -/
def parseU (s : List UInt8) : List Upd × Nat :=
  match rawU s with
  | none => ([], 4)
  | some l => if risingB l then (l, 0) else ([], 4)
theorem recU_all (s : List UInt8) : (recU s).1.length ≤ s.length ∧ ∀ u ∈ (recU s).1, u.Wf ∧ u.check = 0 := by
  unfold recU
  split
  · exact ⟨Nat.zero_le _, fun u hu => by simp at hu⟩
  · rename_i l h
    exact rawUN_all _ _ _ h
theorem parseU_of (s : List UInt8) : parseU s = if (recU s).2 = 0 then (if risingB (recU s).1 then ((recU s).1, 0) else ([], 4)) else ([], (recU s).2) := by
  unfold parseU recU
  cases rawU s <;> simp
theorem recU_two (s : List UInt8) : (recU s).2 = 0 ∨ (recU s).2 = 4 ∧ (recU s).1 = [] := by
  unfold recU
  cases rawU s <;> simp
theorem parseU_rising (s : List UInt8) : Rising Upd.key (parseU s).1 := by
  unfold parseU
  split
  · exact List.Pairwise.nil
  · split
    · rename_i h; exact (risingB_iff _).1 h
    · exact List.Pairwise.nil
theorem parseU_all (s : List UInt8) : (parseU s).1.length ≤ s.length ∧ ∀ u ∈ (parseU s).1, u.Wf ∧ u.check = 0 := by
  have h := recU_all s
  rw [parseU_of]
  split
  · split
    · exact h
    · exact ⟨Nat.zero_le _, fun u hu => by simp at hu⟩
  · exact ⟨Nat.zero_le _, fun u hu => by simp at hu⟩

end Go.Proofs.Ytcjeonamebnpfaa
