/-
  Entries that may be (leaf.Of, Entry.right, the document's Right); the document's Split.
-/
import Derived.Test.YtcjeonamebnpfaaBoxE
import Derived.Test.YtcjeonamebnpfaaLend
import Derived.Test.YtcjeonamebnpfaaLeafG
import Derived.Test.YtcjeonamebnpfaaWq
namespace Go.Proofs.Ytcjeonamebnpfaa
open Go.RowKit
attribute [local go_sem ↓] Go.wp_at_zero Go.wp_at_succ

set_option maxRecDepth 100000 in
set_option maxHeartbeats 1000000 in
theorem refSplit_any (s : List UInt8) (hs : s.length ≤ 1000000) (w : World) : Calls Try.prog 56 #[.string (S s)] w fun e w' => e = .returned (splitV s) ∧ Below w.heap.size w w' := by
  cases s with
  | nil =>
    go_enter Try.func56, Try.ntmps56
    go_wp2_with fail
    go_ret3
    exact ⟨rfl, Below.refl _ _⟩
  | cons b r =>
    have hb : (b.toNat : Int) < 256 := by have := b.toNat_lt; omega
    have hl : (S (b :: r)).size = r.length + 1 := by rw [S_size]; rfl
    rw [List.length_cons] at hs
    by_cases h : r.length < b.toNat
    · have h' : (r.length : Int) + 1 < 1 + (b.toNat : Int) := by omega
      have hv : Hid (splitV (b :: r) = .tuple #[.string ByteArray.empty, .string ByteArray.empty, .bool false]) := Lib.hid (by simp only [splitV, splitL, if_pos h]; rfl)
      clear h
      go_enter Try.func56, Try.ntmps56
      go_wp2_with fail
      go_ret3
      exact ⟨ret_val (by rw [hv.out]; rfl), Below.refl _ _⟩
    · have h' : ¬ (r.length : Int) + 1 < 1 + (b.toNat : Int) := by omega
      have h2 : (b.toNat : Int) ≤ (r.length : Int) := by omega
      have hv : Hid (splitV (b :: r) = .tuple #[.string (S (r.take b.toNat)), .string (S (r.drop b.toNat)), .bool true]) := Lib.hid (by simp only [splitV, splitL, if_neg h])
      clear h
      go_enter Try.func56, Try.ntmps56
      go_wp2_with fail
      go_region
      go_wp2_with fail
      go_ret3
      refine ⟨ret_val ?_, by go_grown⟩
      rw [hv.out]
      show Value.tuple #[.string (S (List.take (1 + b.toNat - 1) r)), .string (S (List.take (r.length + 1 - (1 + b.toNat)) (List.drop (1 + b.toNat) (b :: r)))), .bool true] = _
      rw [Nat.add_sub_cancel_left, Nat.add_comm 1, List.drop_succ_cons, List.take_of_length_le (l := List.drop b.toNat r) (by rw [List.length_drop]; omega)]

/-- May an entry be? -/
def okB (e : Ent) : Bool := !e.key.isEmpty && (decide (e.key.length ≤ 16) && decide (e.val.length ≤ 32))
theorem okB_iff (e : Ent) : okB e = true ↔ 1 ≤ e.key.length ∧ e.key.length ≤ 16 ∧ e.val.length ≤ 32 := by
  unfold okB
  cases h : e.key <;> simp
set_option maxRecDepth 100000 in
set_option maxHeartbeats 2000000 in
theorem rightOne (k v : List UInt8) (w : World) :
    Calls Try.prog 54 #[.agg #[.string (S k), .string (S v)]] w fun e w' => e = .returned (.bool (okB ⟨k, v⟩)) ∧ Below w.heap.size w w' := by
  by_cases h0 : k = []
  · have he : k.isEmpty = true := by rw [h0]; rfl
    have H := Lib.hid (show okB ⟨k, v⟩ = false by simp [okB, he])
    go_enter Try.func54, Try.ntmps54
    go_wp2
    all_goals (go_ret; exact ⟨ret_bool (by rw [H.out]), by go_grown⟩)
  · have he : k.isEmpty = false := by cases hk : k <;> simp [hk] at h0 ⊢
    by_cases h1 : k.length ≤ 16
    · have H := Lib.hid (show okB ⟨k, v⟩ = decide (v.length ≤ 32) by simp [okB, he, h1])
      go_enter Try.func54, Try.ntmps54
      go_wp2
      all_goals (go_ret; exact ⟨ret_bool (by rw [H.out, Bool.eq_iff_iff]; simp; omega), by go_grown⟩)
    · have H := Lib.hid (show okB ⟨k, v⟩ = false by simp [okB, h1])
      go_enter Try.func54, Try.ntmps54
      go_wp2
      all_goals (go_ret; exact ⟨ret_bool (by rw [H.out]), by go_grown⟩)

/-- May entries be a leaf's? -/
def RightE (l : List Ent) : Prop := FineE l ∧ Rising Ent.key l
theorem right_nil : RightE [] := ⟨fun e he => by simp at he, List.Pairwise.nil⟩
theorem right_not {l : List Ent} {j : Nat} (h : ¬ RightE (l.take j)) : ¬ RightE l := fun hr =>
  h ⟨fun e he => hr.1 e (List.mem_of_mem_take he), hr.2.sublist (List.take_sublist j l)⟩
theorem right_step (l : List Ent) (j : Nat) (hj : j < l.length) (h : RightE (l.take j)) :
    RightE (l.take (j + 1)) ↔ okB l[j] = true ∧ (∀ h0 : 0 < j, bl (l[j - 1]'(by omega)).key l[j].key = true) := by
  rw [List.take_succ_eq_append_getElem hj, okB_iff]
  constructor
  · rintro ⟨h1, h2⟩
    refine ⟨h1 _ (List.mem_append_right _ (List.mem_singleton.2 rfl)), fun h0 => ?_⟩
    have h3 := (List.pairwise_append.1 h2).2.2
    refine h3 (l[j - 1]'(by omega)) ?_ l[j] (List.mem_singleton.2 rfl)
    rw [List.mem_take_iff_getElem]
    exact ⟨j - 1, by omega, rfl⟩
  · rintro ⟨h1, h2⟩
    refine ⟨fun e he => ?_, List.pairwise_append.2 ⟨h.2, by simp, fun a ha b hb => ?_⟩⟩
    · rcases List.mem_append.1 he with he | he
      · exact h.1 e he
      · rw [List.mem_singleton] at he; rw [he]; exact h1
    · rw [List.mem_singleton] at hb
      subst hb
      obtain ⟨i, hi, rfl⟩ := List.mem_take_iff_getElem.1 ha
      have h3 := h2 (by omega)
      by_cases e : i = j - 1
      · subst e; exact h3
      · have h4 := Rising.lt h.2 (show i < j - 1 by omega) (by rw [List.length_take]; omega)
        simp only [List.getElem_take] at h4
        exact bl_trans h4 h3

end Go.Proofs.Ytcjeonamebnpfaa
