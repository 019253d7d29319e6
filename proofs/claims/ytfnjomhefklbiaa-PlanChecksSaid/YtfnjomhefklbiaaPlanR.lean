/-
  The walks of the document's layer 18: which plans may be, how many bytes full ones have, the check, the best.
-/
import Derived.Test.YtfnjomhefklbiaaPlanW
import Derived.Test.YtfnjomhefklbiaaRef12
import Derived.Test.YtfnjomhefklbiaaRef16T
import Derived.BigQuiet
namespace Go.Proofs.Ytfnjomhefklbiaa
open Go.RowKit

/-- So many noughts. -/
def zs (n : Nat) : List UInt8 := List.replicate n 0
@[go_sem] theorem zs_length (n : Nat) : (zs n).length = n := by simp [zs]

set_option maxHeartbeats 400000 in
theorem refText18 (n : Nat) (hn : n ≤ 1000) (w : World) :
    Calls Try.prog 28 #[.int .i64 n] w fun e w' => e = .returned (.string (S (zs n))) ∧ Below w.heap.size w w' := by
  have hmk := run_make_row' (P := Try.prog) 51 5 (.int .u8 0) 1 Try.underlying51 (by kernel_rfl) rfl .i64 .i64 n (by omega) (by omega)
  have hcv := fun w n c m hm => run_str_made (P := Try.prog) 51 9 5 Try.underlying51 Try.underlying5 Try.underlying9 w n c m hm
  go_enter Try.func28, Try.ntmps28
  go_wp2
  go_ret
  exact ⟨rfl, by go_grown⟩

set_option maxHeartbeats 400000 in
theorem refRight_any (F B L : Int) (w : World) :
    Calls Try.prog 12 #[.agg #[.int .i64 F, .int .i64 B, .int .i64 L]] w fun e w' => e = .returned (.bool (PlanL.right F B L)) ∧ Below w.heap.size w w' := by
  go_enter Try.func12, Try.ntmps12
  go_wp2
  all_goals (go_ret; exact ⟨ret_bool (by first | exact ((PlanL.right_iff F B L).2 (by omega)).symm | exact ((PlanL.right_not F B L).2 (by omega)).symm | (by_cases h : L ≤ 64 <;> simp [PlanL.right, h] <;> omega)), by go_grown⟩)


theorem pair_int {a b c d : Int} (h : a = b) (k : c = d) : Value.tuple #[.int .i64 a, .int .i64 c] = .tuple #[.int .i64 b, .int .i64 d] := by rw [h, k]
theorem oneText : textAcc [] [Upd.mk 1 (zs 16) (zs 32) 0] = ((Upd.mk 1 (zs 16) (zs 32) 0).bytes, 0) := by
  rw [textAcc, if_pos (by simp [Upd.check, zs_length]), textAcc, List.nil_append]
theorem oneText_len : ((Upd.mk 1 (zs 16) (zs 32) 0).bytes).length = 51 := by simp [Upd.bytes, zs_length]
theorem oneEnt_len : (entText [Ent.mk (zs 16) (zs 32)]).length = 50 := by simp [entText, Ent.bytes, zs_length]

set_option maxHeartbeats 1000000 in
theorem refBytes_any (F B L : Int) (w : World) :
    Calls Try.prog 11 #[.agg #[.int .i64 F, .int .i64 B, .int .i64 L]] w fun e w' => e = .returned (.tuple #[.int .i64 (PlanL.nodeBytes F B L), .int .i64 (PlanL.leafBytes F B L)]) ∧ Below w.heap.size w w' := by
  by_cases h : PlanL.right F B L = true
  · have Hnb := Lib.hid (show PlanL.nodeBytes F B L = 1 + 33 * F + 51 * B by rw [PlanL.nodeBytes, if_pos h])
    have Hlb := Lib.hid (show PlanL.leafBytes F B L = 50 * L by rw [PlanL.leafBytes, if_pos h])
    obtain ⟨h1, h2, h3, h4, h5, h6⟩ := (PlanL.right_iff F B L).1 h
    go_enter Try.func11, Try.ntmps11
    go_wp2_with fail
    refine (thread (refRight_any _ _ _ _) w.heap.size w (by go_grown) (by go_grown)).mono ?_
    rintro e w1 ⟨rfl, hB1, hc1, hf1, hs1, hz1⟩
    have hl1 : w.heap.size < w1.heap.size := Nat.lt_of_lt_of_le (by simp) hs1
    have d0 := (hc1 w.heap.size 0 (by simp)).trans (cell_new _ _ _ _ _)
    have d1 := (hc1 w.heap.size 1 (by simp)).trans (cell_new _ _ _ _ _)
    have d2 := (hc1 w.heap.size 2 (by simp)).trans (cell_new _ _ _ _ _)
    simp only [List.getElem?_toArray, List.getElem?_cons_zero, List.getElem?_cons_succ] at d0 d1 d2
    clear hc1 hf1 hs1
    go_wp2_with fail
    refine (thread (refText18 16 (by omega) _) w.heap.size w hB1 hz1).mono ?_
    rintro e w2 ⟨rfl, hB2, hc2, -, hs2, hz2⟩
    have e0 := (hc2 _ 0 hl1).trans d0
    have e1 := (hc2 _ 1 hl1).trans d1
    have e2 := (hc2 _ 2 hl1).trans d2
    have hl2 := Nat.lt_of_lt_of_le hl1 hs2
    clear hc2 hs2 d0 d1 d2 hl1 hz1
    go_wp2_with fail
    refine (thread (refText18 32 (by omega) _) w.heap.size w hB2 hz2).mono ?_
    rintro e w3 ⟨rfl, hB3, hc3, -, hs3, hz3⟩
    have d0 := (hc3 _ 0 hl2).trans e0
    have d1 := (hc3 _ 1 hl2).trans e1
    have d2 := (hc3 _ 2 hl2).trans e2
    have hl3 := Nat.lt_of_lt_of_le hl2 hs3
    clear hc3 hs3 e0 e1 e2 hl2 hz2 hB1 hB2
    go_wp2_with fail
    go_loop [7, 8] (fun n i => ∃ j : Nat, (j : Int) ≤ F ∧ n = .int .i64 (1 + 33 * j) ∧ i = .int .i64 j) (fun _ i => F.toNat - (intOf i).toNat)
    case atStart => exact ⟨0, by omega, rfl, rfl⟩
    case round =>
      obtain ⟨j, hj, rfl, rfl⟩ := hrel
      go_wp2_with fail
      · go_round
        case rel => exact ⟨j + 1, by omega, by go_num, by go_num⟩
        case measure => simp [intOf]; omega
      · obtain rfl : F = j := by omega
        refine (thread (refText_any _ _ [Upd.mk 1 (zs 16) (zs 32) 0] _ (by simp) (by intro u hu; simp at hu; subst hu; exact ⟨by decide, by decide⟩) (by exact SlAt.new _ _ _ _ _ (by intro x _; rfl) rfl)) w.heap.size w (by go_grown) (by go_grown)).mono ?_
        rintro e w4 ⟨rfl, hB4, hc4, -, hs4, hz4⟩
        rw [oneText]
        have hl3' : w.heap.size < (w3.alloc (.cells #[.int .u8 1, .string (S (zs 16)), .string (S (zs 32)), .int .u64 0] 61)).heap.size := by simp; omega
        have e1 := (hc4 w.heap.size 1 hl3').trans (cell_past _ d1)
        have e2 := (hc4 w.heap.size 2 hl3').trans (cell_past _ d2)
        have hl4 := Nat.lt_of_lt_of_le hl3' hs4
        clear hc4 hs4 hl3' d0 d1 d2 hl3 hz3 hB3
        have ht := oneText_len
        generalize (Upd.mk 1 (zs 16) (zs 32) 0).bytes = tx at ht ⊢
        go_wp2_with fail
        refine (thread (refEntText_any _ _ [Ent.mk (zs 16) (zs 32)] _ (by simp) (by intro u hu; simp at hu; subst hu; exact ⟨by simp [zs_length], by simp [zs_length]⟩) (by exact SlAt.new _ _ _ _ _ (by intro x _; rfl) rfl)) w.heap.size w (by go_grown) (by go_grown)).mono ?_
        rintro e w5 ⟨rfl, hB5, hc5, -, hs5, hz5⟩
        have he := oneEnt_len
        generalize entText [Ent.mk (zs 16) (zs 32)] = te at he ⊢
        have hl4' : w.heap.size < (w4.alloc (.cells #[.string (S (zs 16)), .string (S (zs 32))] 65)).heap.size := by simp; omega
        have d1 := (hc5 w.heap.size 1 hl4').trans (cell_past _ e1)
        have d2 := (hc5 w.heap.size 2 hl4').trans (cell_past _ e2)
        clear hc5 hs5 hl4' e1 e2 hl4 hz4 hB4
        go_wp2_with fail
        go_quiet (fail)
        go_wp2_with fail
        go_ret2
        exact ⟨ret_val (pair_int (by rw [Hnb.out]; go_arith) (by rw [Hlb.out]; go_arith)), below_drewN (by go_grown) _⟩
  · have hr : PlanL.right F B L = false := by simpa using h
    have Hnb := Lib.hid (show PlanL.nodeBytes F B L = 0 by rw [PlanL.nodeBytes, if_neg h])
    have Hlb := Lib.hid (show PlanL.leafBytes F B L = 0 by rw [PlanL.leafBytes, if_neg h])
    clear h
    go_enter Try.func11, Try.ntmps11
    go_wp2_with (go_at_call 12; refine (thread (refRight_any _ _ _ _) w.heap.size w (by go_grown) (by go_grown)).mono ?_; rintro e w1 ⟨rfl, hB1, hc1, hf1, hs1, hz1⟩)
    go_ret2
    exact ⟨ret_val (by rw [Hnb.out, Hlb.out]; rfl), hB1⟩


set_option maxHeartbeats 1000000 in
theorem refCheck18_any (F B L n : Int) (w : World) :
    Calls Try.prog 10 #[.agg #[.int .i64 F, .int .i64 B, .int .i64 L], .int .i64 n] w fun e w' => e = .returned (.int .i64 (PlanL.check F B L n)) ∧ Below w.heap.size w w' := by
  by_cases h : PlanL.right F B L = true
  · by_cases hn : 128 ≤ n ∧ n ≤ 1024
    · have Hnb := Lib.hid (show PlanL.nodeBytes F B L = 1 + 33 * F + 51 * B by rw [PlanL.nodeBytes, if_pos h])
      have Hlb := Lib.hid (show PlanL.leafBytes F B L = 50 * L by rw [PlanL.leafBytes, if_pos h])
      have Hck := Lib.hid (show PlanL.check F B L n = if n - 24 < 1 + 33 * F + 51 * B ∨ n - 24 < 50 * L then 20 else 0 by
        rw [PlanL.check, if_neg (by rw [h]; simp; omega)])
      obtain ⟨h1, h2, h3, h4, h5, h6⟩ := (PlanL.right_iff F B L).1 h
      obtain ⟨h7, h8⟩ := hn
      go_enter Try.func10, Try.ntmps10
      go_wp2_with (first
        | (go_at_call 12; refine (thread (refRight_any _ _ _ _) w.heap.size w (by go_grown) (by go_grown)).mono ?_; rintro e w1 ⟨rfl, hB1, hc1, hf1, hs1, hz1⟩; have hl1 : w.heap.size < w1.heap.size := Nat.lt_of_lt_of_le (by simp) hs1)
        | (go_at_call 11; refine (thread (refBytes_any _ _ _ _) w.heap.size w (by go_grown) (by go_grown)).mono ?_; rintro e w2 ⟨rfl, hB2, hc2, hf2, hs2, hz2⟩; rw [Hnb.out, Hlb.out]))
      all_goals (go_ret; exact ⟨ret_int (by rw [Hck.out]; first | rw [if_pos (by omega)] | rw [if_neg (by omega)]), by go_grown⟩)
    · have Hck := Lib.hid (show PlanL.check F B L n = 2 by rw [PlanL.check, if_pos (by omega)])
      have Hn := Lib.hid hn
      clear hn
      go_enter Try.func10, Try.ntmps10
      go_wp2_with (first
        | (go_at_call 12; refine (thread (refRight_any _ _ _ _) w.heap.size w (by go_grown) (by go_grown)).mono ?_; rintro e w1 ⟨rfl, hB1, hc1, hf1, hs1, hz1⟩; have hl1 : w.heap.size < w1.heap.size := Nat.lt_of_lt_of_le (by simp) hs1))
      all_goals first
        | (go_ret; exact ⟨ret_int Hck.out.symm, by go_grown⟩)
        | (exfalso; have := Hn.out; omega)
  · have hr : PlanL.right F B L = false := by simpa using h
    have Hck := Lib.hid (show PlanL.check F B L n = 2 by rw [PlanL.check, if_pos (Or.inl hr)])
    clear h
    go_enter Try.func10, Try.ntmps10
    go_wp2_with (go_at_call 12; refine (thread (refRight_any _ _ _ _) w.heap.size w (by go_grown) (by go_grown)).mono ?_; rintro e w1 ⟨rfl, hB1, hc1, hf1, hs1, hz1⟩)
    all_goals (go_ret; exact ⟨ret_int Hck.out.symm, by go_grown⟩)

end Go.Proofs.Ytfnjomhefklbiaa
