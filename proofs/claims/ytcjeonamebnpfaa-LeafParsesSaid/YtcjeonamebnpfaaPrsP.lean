/-
  The entries of bytes: plain laws, no program in sight.
-/
import Derived.Test.YtcjeonamebnpfaaRgt
namespace Go.Proofs.Ytcjeonamebnpfaa
open Go.RowKit

theorem splitL_len (s : List UInt8) : (splitL s).2.1.length ≤ s.length ∧ ((splitL s).2.2 = true → (splitL s).2.1.length < s.length) := by
  cases s with
  | nil => simp [splitL]
  | cons b r =>
    by_cases h : r.length < b.toNat
    · simp [splitL, h]
    · simp [splitL, h]; omega
theorem splitL_fst (s : List UInt8) : (splitL s).1.length ≤ s.length := by
  cases s with
  | nil => simp [splitL]
  | cons b r =>
    by_cases h : r.length < b.toNat
    · simp [splitL, h]
    · simp [splitL, h]; omega

/-- The entry at the head of bytes, and what is left. -/
def stepE (s : List UInt8) : Option (Ent × List UInt8) :=
  if (splitL s).2.2 && (splitL (splitL s).2.1).2.2 then some (⟨(splitL s).1, (splitL (splitL s).2.1).1⟩, (splitL (splitL s).2.1).2.1) else none
theorem stepE_len {s r : List UInt8} {e : Ent} (h : stepE s = some (e, r)) : r.length + 1 < s.length + 1 := by
  unfold stepE at h
  split at h
  · rename_i hc
    simp only [Bool.and_eq_true] at hc
    simp only [Option.some.injEq, Prod.mk.injEq] at h
    have h1 := (splitL_len s).2 hc.1
    have h2 := (splitL_len (splitL s).2.1).1
    rw [h.2] at h2
    omega
  · simp at h
def rawN : Nat → List UInt8 → Option (List Ent)
  | 0, _ => some []
  | n + 1, s => if s = [] then some [] else match stepE s with
    | none => none
    | some (e, r) => (rawN n r).map fun l => e :: l
theorem rawN_same : ∀ (n m : Nat) (s : List UInt8), s.length ≤ n → s.length ≤ m → rawN n s = rawN m s
  | 0, 0, _, _, _ => rfl
  | 0, m + 1, s, h, _ => by
    have : s = [] := List.eq_nil_of_length_eq_zero (by omega)
    simp [rawN, this]
  | n + 1, 0, s, _, h => by
    have : s = [] := List.eq_nil_of_length_eq_zero (by omega)
    simp [rawN, this]
  | n + 1, m + 1, s, h, k => by
    unfold rawN
    by_cases h0 : s = []
    · simp [h0]
    · rw [if_neg h0, if_neg h0]
      cases hs : stepE s with
      | none => rfl
      | some p =>
        obtain ⟨e, r⟩ := p
        have := stepE_len hs
        simp only
        rw [rawN_same n m r (by omega) (by omega)]
def rawE (s : List UInt8) : Option (List Ent) := rawN s.length s
theorem rawE_nil : rawE [] = some [] := rfl
theorem rawE_none {s : List UInt8} (h0 : s ≠ []) (h : stepE s = none) : rawE s = none := by
  unfold rawE
  cases hl : s.length with
  | zero => exact absurd (List.eq_nil_of_length_eq_zero hl) h0
  | succ n => simp [rawN, h0, h]
theorem rawE_some {s r : List UInt8} {e : Ent} (h0 : s ≠ []) (h : stepE s = some (e, r)) : rawE s = (rawE r).map fun l => e :: l := by
  have hlt := stepE_len h
  unfold rawE
  cases hl : s.length with
  | zero => exact absurd (List.eq_nil_of_length_eq_zero hl) h0
  | succ n =>
    conv => lhs; unfold rawN
    rw [if_neg h0, h]
    simp only
    rw [rawN_same n r.length r (by omega) (Nat.le_refl _)]
theorem raw_more {s0 s r : List UInt8} {acc : List Ent} {e : Ent} (h : rawE s0 = (rawE s).map fun l => acc ++ l) (h0 : s ≠ []) (k : stepE s = some (e, r)) : rawE s0 = (rawE r).map fun l => (acc ++ [e]) ++ l := by
  rw [h, rawE_some h0 k]
  cases rawE r <;> simp
theorem raw_stop {s0 s : List UInt8} {acc : List Ent} (h : rawE s0 = (rawE s).map fun l => acc ++ l) (h0 : s ≠ []) (k : stepE s = none) : rawE s0 = none := by
  rw [h, rawE_none h0 k]; rfl
theorem raw_end {s0 : List UInt8} {acc : List Ent} (h : rawE s0 = (rawE []).map fun l => acc ++ l) : rawE s0 = some acc := by
  rw [h, rawE_nil]; simp

/-- May entries be a leaf's? -/
def rightB (l : List Ent) : Bool := l.all okB && decide (l.Pairwise fun a b => bl a.key b.key = true)
theorem rightB_iff (l : List Ent) : rightB l = true ↔ RightE l := by
  unfold rightB RightE FineE Rising
  rw [Bool.and_eq_true, List.all_eq_true, decide_eq_true_iff]
  constructor
  · rintro ⟨h1, h2⟩; exact ⟨fun e he => (okB_iff e).1 (h1 e he), h2⟩
  · rintro ⟨h1, h2⟩; exact ⟨fun e he => (okB_iff e).2 (h1 e he), h2⟩
/-- The leaf of bytes: its entries, and the error's number. -/
def parseE (s : List UInt8) : List Ent × Nat :=
  match rawE s with
  | none => ([], 4)
  | some l => if rightB l then (l, 0) else ([], 4)
theorem parseE_none {s : List UInt8} (h : rawE s = none) : parseE s = ([], 4) := by simp [parseE, h]
theorem parseE_bad {s : List UInt8} {l : List Ent} (h : rawE s = some l) (k : rightB l = false) : parseE s = ([], 4) := by simp [parseE, h, k]
theorem parseE_ok {s : List UInt8} {l : List Ent} (h : rawE s = some l) (k : rightB l = true) : parseE s = (l, 0) := by simp [parseE, h, k]
theorem parseE_right (s : List UInt8) : RightE (parseE s).1 := by
  unfold parseE
  split
  · exact right_nil
  · split
    · rename_i h; exact (rightB_iff _).1 h
    · exact right_nil
theorem rawN_len : ∀ (n : Nat) (s : List UInt8) (l : List Ent), rawN n s = some l → l.length ≤ n
  | 0, _, l, h => by simp [rawN] at h; simp [h]
  | n + 1, s, l, h => by
    unfold rawN at h
    split at h
    · simp only [Option.some.injEq] at h; rw [← h]; exact Nat.zero_le _
    · split at h
      · simp at h
      · rename_i e r _
        cases hr : rawN n r with
        | none => rw [hr] at h; simp at h
        | some t =>
          rw [hr] at h
          simp at h
          have := rawN_len n r t hr
          rw [← h]; simp; omega
theorem parseE_len (s : List UInt8) : (parseE s).1.length ≤ s.length := by
  unfold parseE
  split
  · simp
  · rename_i l h
    split
    · exact rawN_len _ _ _ h
    · simp

end Go.Proofs.Ytcjeonamebnpfaa
