/-
  The plain laws behind FlushAll and FlushSteps: where a key belongs, by the least keys alone.
-/
import Derived.Test.YtlmlmkeomlehmaaFlp
namespace Go.Proofs.Ytlmlmkeomlehmaa
open Go.RowKit

theorem NodeAt.parts {w : World} {x y : Value} {cs : List Chd} {us : List Upd} (h : NodeAt w (.agg #[x, y]) cs us) : SlC w x cs ∧ SlU w y us := by
  obtain ⟨a, b, u, v, he, h1, h2⟩ := h
  simp only [Value.agg.injEq, Array.mk.injEq, List.cons.injEq, and_true] at he
  obtain ⟨rfl, rfl⟩ := he
  exact ⟨h1, h2⟩
theorem lenU_next (a : Option Addr) (n c : Nat) (w : World) :
    Calls Try.prog 26 #[.agg #[.slice a n c]] w fun e w' => e = .returned (.int .i64 n) ∧ Below w.heap.size w w' := by
  go_enter Try.func26, Try.ntmps26
  go_wp2
  go_ret
  exact ⟨rfl, by go_grown⟩
theorem lowAt_get {cs : List Chd} {i : Nat} (h : i < cs.length) : lowAt cs i = cs[i].low := by
  unfold lowAt; rw [List.getElem?_eq_getElem h]; rfl
theorem lowAt_take {cs : List Chd} {i m : Nat} (h : i < m) : lowAt (cs.take m) i = lowAt cs i := by
  unfold lowAt; rw [List.getElem?_take_of_lt h]
theorem lowAt_drop (cs : List Chd) (i m : Nat) : lowAt (cs.drop m) i = lowAt cs (m + i) := by
  unfold lowAt; rw [List.getElem?_drop]
theorem lowAt_headless (cs : List Chd) (i : Nat) : lowAt (headless cs) i = if i = 0 then [] else lowAt cs i := by
  cases cs with
  | nil => unfold headless lowAt; simp
  | cons c l =>
    cases i with
    | zero => rfl
    | succ i => unfold headless lowAt; simp
/-- A key belongs to the i-th child. -/
structure Bel (cs : List Chd) (k : List UInt8) (i : Nat) : Prop where
  lt : i < cs.length
  no : bl k (lowAt cs i) = false
  up : ∀ j, i < j → j < cs.length → bl k (lowAt cs j) = true
theorem chAt_iff (cs : List Chd) (k : List UInt8) (i : Nat) : ∀ n, n ≤ cs.length → (chAt cs k n = (i : Int) ↔ i < n ∧ bl k (lowAt cs i) = false ∧ ∀ j, i < j → j < n → bl k (lowAt cs j) = true)
  | 0, _ => by unfold chAt; constructor; · intro h; omega
               · rintro ⟨h, -⟩; omega
  | n + 1, hn => by
    have ih := chAt_iff cs k i n (by omega)
    have hl : lowAt cs n = cs[n].low := lowAt_get (by omega)
    cases hb : bl k cs[n].low with
    | true =>
      rw [chAt_no (by omega) hb, ih]
      constructor
      · rintro ⟨h1, h2, h3⟩
        refine ⟨by omega, h2, fun j hj hj2 => ?_⟩
        by_cases e : j = n
        · subst e; rw [hl]; exact hb
        · exact h3 j hj (by omega)
      · rintro ⟨h1, h2, h3⟩
        have hin : i ≠ n := fun e => by subst e; rw [hl, hb] at h2; exact absurd h2 (by simp)
        exact ⟨by omega, h2, fun j hj hj2 => h3 j hj (by omega)⟩
    | false =>
      rw [chAt_yes (by omega) hb]
      constructor
      · intro h
        obtain rfl : n = i := by omega
        exact ⟨by omega, by rw [hl]; exact hb, fun j _ _ => by omega⟩
      · rintro ⟨h1, h2, h3⟩
        by_cases e : n = i
        · omega
        · have := h3 n (by omega) (by omega)
          rw [hl, hb] at this; exact absurd this (by simp)
theorem chOf_iff (cs : List Chd) (k : List UInt8) (i : Nat) : chOf cs k = (i : Int) ↔ Bel cs k i := by
  unfold chOf
  rw [chAt_iff cs k i _ (Nat.le_refl _)]
  exact ⟨fun ⟨h1, h2, h3⟩ => ⟨h1, h2, h3⟩, fun h => ⟨h.lt, h.no, h.up⟩⟩
/-- Children that may be: the first one's least key is the empty one, all rise. -/
structure KidsOk (cs : List Chd) : Prop where
  pos : 0 < cs.length
  first : lowAt cs 0 = []
  rise : ∀ i j, i < j → j < cs.length → bl (lowAt cs i) (lowAt cs j) = true
theorem KidsOk.bel {cs : List Chd} (h : KidsOk cs) (k : List UInt8) : ∃ i : Nat, chOf cs k = (i : Int) ∧ Bel cs k i := by
  have h1 : 0 ≤ chOf cs k := chAt_pos cs k h.pos (by rw [← lowAt_get h.pos]; exact h.first) _ h.pos
  obtain ⟨i, hi⟩ := Int.eq_ofNat_of_zero_le h1
  exact ⟨i, hi, (chOf_iff cs k i).1 hi⟩
theorem bl_le_trans {a b c : List UInt8} (h : bl a b = true) (k : bl c b = false) : bl a c = true := by
  rcases bl_not k with e | e
  · rw [← e]; exact h
  · exact bl_trans h e
theorem KidsOk.high_ne {cs : List Chd} (h : KidsOk cs) {i : Nat} (hi : 0 < i) (hl : i < cs.length) : (lowAt cs i).isEmpty = false := by
  have := h.rise 0 i hi hl
  cases e : lowAt cs i with
  | nil => rw [e, bl_nil] at this; exact absurd this (by simp)
  | cons a l => rfl
/-- The range of a child has just its keys. -/
theorem within_bel {cs : List Chd} (h : KidsOk cs) (k : List UInt8) (i : Nat) (hi : i < cs.length) : withinB k (rngLow cs (i : Int)) (rngHigh cs (i : Int)) = decide (chOf cs k = (i : Int)) := by
  have hlo : rngLow cs (i : Int) = lowAt cs i := by unfold rngLow lowAt; rw [if_neg (by omega)]; rfl
  have hhi : rngHigh cs (i : Int) = lowAt cs (i + 1) := by unfold rngHigh lowAt; rw [if_neg (by omega), if_pos (by simpa using hi)]; rfl
  rw [hlo, hhi, Bool.eq_iff_iff, decide_eq_true_iff, chOf_iff]
  unfold withinB
  simp only [Bool.and_eq_true, Bool.not_eq_true', Bool.or_eq_true]
  constructor
  · rintro ⟨h1, h2⟩
    refine ⟨hi, h1, fun j hj hjl => ?_⟩
    rcases h2 with h2 | h2
    · rw [h.high_ne (by omega) (by omega)] at h2; exact absurd h2 (by simp)
    · by_cases e : j = i + 1
      · subst e; exact h2
      · exact bl_trans h2 (h.rise (i + 1) j (by omega) hjl)
  · intro hb
    refine ⟨hb.no, ?_⟩
    by_cases e : i + 1 < cs.length
    · exact Or.inr (hb.up (i + 1) (by omega) e)
    · left; unfold lowAt; rw [List.getElem?_eq_none (by omega)]; rfl
theorem cutIn_bel {cs : List Chd} (h : KidsOk cs) {us : List Upd} (hr : Rising Upd.key us) (i : Nat) (hi : i < cs.length) : cutIn us (rngLow cs (i : Int)) (rngHigh cs (i : Int)) = us.filter (fun u => decide (chOf cs u.key = (i : Int))) := by
  rw [(cut_filter hr _ _).1]
  congr 1; funext u; exact within_bel h u.key i hi
theorem cutOut_bel {cs : List Chd} (h : KidsOk cs) {us : List Upd} (hr : Rising Upd.key us) (i : Nat) (hi : i < cs.length) : cutOut us (rngLow cs (i : Int)) (rngHigh cs (i : Int)) = us.filter (fun u => !decide (chOf cs u.key = (i : Int))) := by
  rw [(cut_filter hr _ _).2]
  congr 1; funext u; rw [within_bel h u.key i hi]
theorem filter_len_le (l : List Upd) (p q : Upd → Bool) : ((l.filter p).filter q).length ≤ (l.filter q).length := by
  rw [List.filter_filter, List.filter_congr (q := fun a => p a && q a) (fun x _ => Bool.and_comm _ _), ← List.filter_filter]
  exact List.length_filter_le _ _
theorem cnt_filter (cs : List Chd) (us : List Upd) (p : Upd → Bool) (m : Int) (h : ∀ x ∈ cntAt cs us, x ≤ m) : ∀ x ∈ cntAt cs (us.filter p), x ≤ m := by
  intro x hx
  obtain ⟨i, hi, rfl⟩ := List.getElem_of_mem hx
  rw [cntAt_len] at hi
  have := h _ (List.getElem_mem (l := cntAt cs us) (n := i) (by rw [cntAt_len]; exact hi))
  rw [cntAt_get] at this ⊢
  have h2 := filter_len_le us p (fun u => decide (chOf cs u.key = (i : Int)))
  omega
/-- All together are at most so many times the most. -/
theorem cnt_sum (cs : List Chd) (m : Int) : ∀ (n : Nat) (us : List Upd), (∀ u ∈ us, 0 ≤ chOf cs u.key ∧ chOf cs u.key < (n : Int)) → (∀ i : Nat, i < n → ((us.filter fun u => decide (chOf cs u.key = (i : Int))).length : Int) ≤ m) → (us.length : Int) ≤ m * (n : Int)
  | 0, us, h, _ => by
    cases us with
    | nil => simp
    | cons u l => have := h u (by simp); omega
  | n + 1, us, h, hm => by
    have h1 := cnt_sum cs m n (us.filter fun u => !decide (chOf cs u.key = (n : Int))) (fun u hu => by
      obtain ⟨h1, h2⟩ := List.mem_filter.1 hu
      have := h u h1
      simp at h2
      omega) (fun i hi => by
      have := hm i (by omega)
      have h2 := filter_len_le us (fun u => !decide (chOf cs u.key = (n : Int))) (fun u => decide (chOf cs u.key = (i : Int)))
      omega)
    have h2 := filter_both2 us (fun u => decide (chOf cs u.key = (n : Int)))
    have h3 := hm n (by omega)
    have e : m * ((n + 1 : Nat) : Int) = m * (n : Int) + m := by rw [Int.natCast_succ, Int.mul_add, Int.mul_one]
    rw [e]
    omega
theorem cnt_most {cs : List Chd} (h : KidsOk cs) (us : List Upd) (m : Int) (hm : ∀ x ∈ cntAt cs us, x ≤ m) : (us.length : Int) ≤ m * (cs.length : Int) := by
  refine cnt_sum cs m cs.length us (fun u _ => ?_) (fun i hi => ?_)
  · obtain ⟨i, hi, hb⟩ := h.bel u.key
    have := hb.lt
    omega
  · have := hm _ (List.getElem_mem (l := cntAt cs us) (n := i) (by rw [cntAt_len]; exact hi))
    rw [cntAt_get] at this
    exact this
/-- Halves: the first one's. -/
theorem chOf_take {cs : List Chd} (h : KidsOk cs) {m : Nat} (hml : m < cs.length) {k : List UInt8} (hk : bl k (lowAt cs m) = true) : chOf (cs.take m) k = chOf cs k := by
  obtain ⟨i, hi, hb⟩ := h.bel k
  rw [hi, chOf_iff]
  have him : i < m := by
    rcases Nat.lt_or_ge i m with h1 | h1
    · exact h1
    · exfalso
      rcases Nat.lt_or_ge m i with h2 | h2
      · have := bl_trans hk (h.rise m i h2 hb.lt)
        rw [hb.no] at this; exact absurd this (by simp)
      · obtain rfl : i = m := by omega
        rw [hb.no] at hk; exact absurd hk (by simp)
  refine ⟨by rw [List.length_take]; omega, by rw [lowAt_take him]; exact hb.no, fun j hj hjl => ?_⟩
  rw [List.length_take] at hjl
  rw [lowAt_take (by omega)]
  exact hb.up j hj (by omega)
theorem chOf_drop {cs : List Chd} (h : KidsOk cs) {m : Nat} (hml : m < cs.length) {k : List UInt8} (hk : bl k (lowAt cs m) = false) : chOf cs k = (m : Int) + chOf (headless (cs.drop m)) k := by
  obtain ⟨i, hi, hb⟩ := h.bel k
  have him : m ≤ i := by
    rcases Nat.lt_or_ge i m with h1 | h1
    · exfalso
      have := hb.up m h1 hml
      rw [hk] at this; exact absurd this (by simp)
    · exact h1
  have : chOf (headless (cs.drop m)) k = ((i - m : Nat) : Int) := by
    rw [chOf_iff]
    have hlt := hb.lt
    refine ⟨by rw [headless_len, List.length_drop]; omega, ?_, fun j hj hjl => ?_⟩
    · rw [lowAt_headless, lowAt_drop]
      split
      · exact bl_nil k
      · rw [show m + (i - m) = i by omega]; exact hb.no
    · rw [headless_len, List.length_drop] at hjl
      rw [lowAt_headless, lowAt_drop, if_neg (by omega)]
      exact hb.up (m + j) (by omega) (by omega)
  rw [hi, this]
  omega
theorem KidsOk.take {cs : List Chd} (h : KidsOk cs) {m : Nat} (hm : 0 < m) : KidsOk (cs.take m) := by
  have hp := h.pos
  refine ⟨by rw [List.length_take]; omega, by rw [lowAt_take hm]; exact h.first, fun i j hij hj => ?_⟩
  rw [List.length_take] at hj
  rw [lowAt_take (by omega), lowAt_take (by omega)]
  exact h.rise i j hij (by omega)

theorem lowAt_kids (l : List (List UInt8)) (i : Nat) (hi : 0 < i) (hl : i < (kids l).length) : lowAt (kids l) i = UInt8.ofNat (4 * (i - 1) + 4 + (l[i - 1]?.getD []).length % 4) :: (l[i - 1]?.getD []).take 5 := by
  rw [kids_len] at hl
  obtain ⟨j, rfl⟩ : ∃ j, i = j + 1 := ⟨i - 1, by omega⟩
  have hjl : j < l.length := by omega
  unfold lowAt kids
  rw [List.getElem?_cons_succ, List.getElem?_mapIdx, List.getElem?_take_of_lt (by omega), List.getElem?_eq_getElem hjl]
  simp [kid, hjl]
theorem kids_ok (l : List (List UInt8)) : KidsOk (kids l) := by
  have h21 : (kids l).length ≤ 21 := by rw [kids_len]; omega
  refine ⟨by rw [kids_len]; omega, rfl, fun i j hij hj => ?_⟩
  have hj' := lowAt_kids l j (by omega) hj
  by_cases e : i = 0
  · subst e
    rw [hj']
    rfl
  · rw [hj', lowAt_kids l i (by omega) (by omega), bl_cons]
    left
    rw [UInt8.lt_iff_toNat_lt]
    simp only [UInt8.toNat_ofNat']
    generalize (l[i - 1]?.getD []).length = x
    generalize (l[j - 1]?.getD []).length = y
    have := Nat.mod_lt x (show 0 < 4 by decide)
    have := Nat.mod_lt y (show 0 < 4 by decide)
    have e1 : (4 * (i - 1) + 4 + x % 4) % 2 ^ 8 = 4 * (i - 1) + 4 + x % 4 := Nat.mod_eq_of_lt (by omega)
    have e2 : (4 * (j - 1) + 4 + y % 4) % 2 ^ 8 = 4 * (j - 1) + 4 + y % 4 := Nat.mod_eq_of_lt (by omega)
    rw [e1, e2]
    omega

/-- Both halves' messages. -/
theorem halves_all {cs : List Chd} (h : KidsOk cs) {us : List Upd} (hr : Rising Upd.key us) {m : Nat} (hm : 0 < m) (hml : m < cs.length) :
    (∀ u ∈ cutIn us [] (lowAt cs m), bl u.key (lowAt cs m) = true ∧ chOf (cs.take m) u.key = chOf cs u.key) ∧ (∀ u ∈ cutOut us [] (lowAt cs m), bl u.key (lowAt cs m) = false ∧ chOf cs u.key = (m : Int) + chOf (headless (cs.drop m)) u.key) ∧ (cutIn us [] (lowAt cs m)).length + (cutOut us [] (lowAt cs m)).length = us.length := by
  have hne := h.high_ne hm hml
  have hw : ∀ k, withinB k [] (lowAt cs m) = bl k (lowAt cs m) := fun k => by unfold withinB; rw [bl_nil, hne]; simp
  refine ⟨fun u hu => ?_, fun u hu => ?_, cut_two hr _ _⟩
  · rw [(cut_filter hr _ _).1, List.mem_filter, hw] at hu
    exact ⟨hu.2, chOf_take h hml hu.2⟩
  · rw [(cut_filter hr _ _).2, List.mem_filter, hw] at hu
    have hb : bl u.key (lowAt cs m) = false := by simpa using hu.2
    exact ⟨hb, chOf_drop h hml hb⟩
theorem halves_bel {cs : List Chd} (h : KidsOk cs) {us : List Upd} (hr : Rising Upd.key us) {m : Nat} (hm : 0 < m) (hml : m < cs.length) :
    cutIn us [] (lowAt cs m) = us.filter (fun u => bl u.key (lowAt cs m)) ∧ cutOut us [] (lowAt cs m) = us.filter (fun u => !bl u.key (lowAt cs m)) := by
  have hne := h.high_ne hm hml
  have hw : ∀ k, withinB k [] (lowAt cs m) = bl k (lowAt cs m) := fun k => by unfold withinB; rw [bl_nil, hne]; simp
  rw [(cut_filter hr _ _).1, (cut_filter hr _ _).2]
  constructor
  · congr 1; funext u; exact hw u.key
  · congr 1; funext u; rw [hw u.key]
/-- A step. -/
theorem step_all {cs : List Chd} (h : KidsOk cs) {us : List Upd} (hr : Rising Upd.key us) (k : Nat) (hkl : k < (cntAt cs us).length) (hmx : ∀ x ∈ cntAt cs us, x ≤ (cntAt cs us)[k]) (hc : ¬ (cntAt cs us)[k] < 1) (La : Nat) (hla : ∀ x ∈ cntAt cs us, x ≤ (La : Int)) :
    (∀ u ∈ cutIn us (rngLow cs (k : Int)) (rngHigh cs (k : Int)), chOf cs u.key = (k : Int)) ∧ 1 ≤ (cutIn us (rngLow cs (k : Int)) (rngHigh cs (k : Int))).length ∧ (cutIn us (rngLow cs (k : Int)) (rngHigh cs (k : Int))).length ≤ La ∧
    us.length ≤ (cutIn us (rngLow cs (k : Int)) (rngHigh cs (k : Int))).length * cs.length ∧ (∀ x ∈ cntAt cs (cutOut us (rngLow cs (k : Int)) (rngHigh cs (k : Int))), x ≤ ((cutIn us (rngLow cs (k : Int)) (rngHigh cs (k : Int))).length : Int)) ∧
    (cutIn us (rngLow cs (k : Int)) (rngHigh cs (k : Int))).length + (cutOut us (rngLow cs (k : Int)) (rngHigh cs (k : Int))).length = us.length ∧ Rising Upd.key (cutOut us (rngLow cs (k : Int)) (rngHigh cs (k : Int))) := by
  have hkc : k < cs.length := by rw [cntAt_len] at hkl; exact hkl
  have hg : (cntAt cs us)[k] = ((cutIn us (rngLow cs (k : Int)) (rngHigh cs (k : Int))).length : Int) := by rw [cntAt_get, cutIn_bel h hr k hkc]
  have hl := hla _ (List.getElem_mem hkl)
  have hs := cnt_most h us _ hmx
  rw [hg] at hl hc hs hmx
  refine ⟨fun u hu => ?_, by omega, by omega, by exact_mod_cast hs, ?_, cut_two hr _ _, ?_⟩
  · rw [cutIn_bel h hr k hkc, List.mem_filter] at hu
    simpa using hu.2
  · rw [cutOut_bel h hr k hkc]
    exact cnt_filter cs us _ _ hmx
  · exact cutOut_rising hr _ _

end Go.Proofs.Ytlmlmkeomlehmaa
