/-
  The walk of the document's bytes of updates.
-/
import Derived.Test.YtcjeonamebnpfaaRef12C
namespace Go.Proofs.Ytcjeonamebnpfaa
open Go.RowKit

theorem textAcc_step {acc : List UInt8} {l : List Upd} {i : Nat} (hi : i < l.length) (h : (l[i]).check = 0) : textAcc acc (l.drop i) = textAcc (acc ++ (l[i]).bytes) (l.drop (i + 1)) := by
  rw [List.drop_eq_getElem_cons hi, textAcc, if_pos h]
theorem textAcc_stop {acc : List UInt8} {l : List Upd} {i : Nat} (hi : i < l.length) (h : ¬ (l[i]).check = 0) : textAcc acc (l.drop i) = ([], (l[i]).check) := by
  rw [List.drop_eq_getElem_cons hi, textAcc, if_neg h]

set_option maxHeartbeats 1000000 in
theorem refText_any (ao : Option Addr) (cap : Nat) (l : List Upd) (w : World) (hl : l.length ≤ 1000000) (hw : ∀ u ∈ l, u.Wf) (hs : SlAt Upd.cells 4 w ao l) :
    Calls Try.prog 40 #[.slice ao l.length cap] w fun e w' => e = .returned (.tuple #[.string (S (textAcc [] l).1), .int .i64 (textAcc [] l).2]) ∧ Below w.heap.size w w' := by
  have hcv := fun w n c => run_str1 (P := Try.prog) 47 9 5 Try.underlying47 Try.underlying5 Try.underlying9 w n c
  have hcv2 := fun w n c => run_str2 (P := Try.prog) 47 9 5 Try.underlying47 Try.underlying5 Try.underlying9 w n c
  go_enter Try.func40, Try.ntmps40
  go_wp2
  go_loopw [4, 5] (fun s i wr => ∃ (j : Nat) (acc : List UInt8), j ≤ l.length ∧ Hid (textAcc acc (l.drop j) = textAcc [] l) ∧ acc.length ≤ j * 64 ∧ s = .string (S acc) ∧ i = .int .i64 j ∧ Below w.heap.size w wr) (fun _ i _ => l.length - (intOf i).toNat)
  case atStart => exact ⟨0, [], Nat.zero_le _, rfl, by simp, rfl, rfl, by go_grown⟩
  case round =>
    obtain ⟨j, acc, hj, hacc, hal, rfl, rfl, hB⟩ := hrel
    have hz := hB.size
    by_cases hlt : j < l.length
    · obtain ⟨b, off, rfl, hbl, hcs⟩ := (hs.kept hB (Nat.le_refl _)).at (by omega)
      obtain ⟨c0, c1, c2, c3⟩ := updCells hcs j hlt
      have hwf := hw _ (List.getElem_mem hlt)
      have hst := fun h => textAcc_step (acc := acc) hlt h
      have hsp := fun h => textAcc_stop (acc := acc) hlt h
      clear hcs hs hw
      generalize l[j] = u at c0 c1 c2 c3 hwf hst hsp
      obtain ⟨kd, key, val, dl⟩ := u
      obtain ⟨hk, hd⟩ := hwf
      dsimp only at c0 c1 c2 c3 hk hd
      by_cases hc : (Upd.mk kd key val dl).check = 0
      · have hst' := Lib.hid (hst hc)
        clear hsp hst
        obtain ⟨k1, k2, k3, k4, k5, _, _⟩ := Upd.check_ok hc
        dsimp only at k1 k2 k3 k4 k5
        have Hc := Lib.hid hc
        have hlt' : (j : Int) < l.length := by omega
        clear hc
        rcases (show kd = 1 ∨ kd = 2 ∨ kd = 3 by omega) with rfl | rfl | rfl
        · go_wp2_with (go_at_call 57; refine (thread (refCheck _ _ _ _ hk hd _) w.heap.size w (by go_grown) (by go_grown)).mono ?_; rintro e w1 ⟨rfl, hB1, hc1, hf1, hs1, hz1⟩; rw [Hc.out]; have hl1 : wr.heap.size < w1.heap.size := Nat.lt_of_lt_of_le (by simp) hs1)
          go_roundw
          case rel => exact ⟨j + 1, acc ++ (Upd.mk 1 key val dl).bytes, by omega, hst'.out.symm.trans hacc.out, by simp [Upd.bytes]; omega, by simp [Upd.bytes], by go_num, by go_grown⟩
          case measure => simp [intOf]; omega
        · go_wp2_with (go_at_call 57; refine (thread (refCheck _ _ _ _ hk hd _) w.heap.size w (by go_grown) (by go_grown)).mono ?_; rintro e w1 ⟨rfl, hB1, hc1, hf1, hs1, hz1⟩; rw [Hc.out]; have hl1 : wr.heap.size < w1.heap.size := Nat.lt_of_lt_of_le (by simp) hs1)
          go_roundw
          case rel => exact ⟨j + 1, acc ++ (Upd.mk 2 key val dl).bytes, by omega, hst'.out.symm.trans hacc.out, by simp [Upd.bytes]; omega, by simp [Upd.bytes], by go_num, by go_grown⟩
          case measure => simp [intOf]; omega
        · go_wp2_with (first | (go_at_call 57; refine (thread (refCheck _ _ _ _ hk hd _) w.heap.size w (by go_grown) (by go_grown)).mono ?_; rintro e w1 ⟨rfl, hB1, hc1, hf1, hs1, hz1⟩; rw [Hc.out]; have hl1 : wr.heap.size < w1.heap.size := Nat.lt_of_lt_of_le (by simp) hs1) | (go_at_call 66; refine (thread (put_any dl hd 8 (by omega) (by omega) _) w.heap.size w (by go_grown) (by go_grown)).mono ?_; rintro e w2 ⟨rfl, hB2, hc2, hf2, hs2, hz2⟩))
          go_roundw
          case rel => exact ⟨j + 1, acc ++ (Upd.mk 3 key val dl).bytes, by omega, hst'.out.symm.trans hacc.out, by simp [Upd.bytes]; omega, by simp [Upd.bytes], by go_num, by go_grown⟩
          case measure => simp [intOf]; omega
      · have hsp' := Lib.hid (hsp hc)
        have hne : ((((Upd.mk kd key val dl).check : Nat) : Int) != 0) = true := by simpa using hc
        clear hst hsp hc
        go_wp2_with (go_at_call 57; refine (thread (refCheck _ _ _ _ hk hd _) w.heap.size w (by go_grown) (by go_grown)).mono ?_; rintro e w1 ⟨rfl, hB1, hc1, hf1, hs1, hz1⟩)
        go_ret2
        exact ⟨ret_val (by rw [← hacc.out, hsp'.out]; rfl), by go_grown⟩
    · obtain rfl : j = l.length := by omega
      go_wp2
      go_ret2
      exact ⟨ret_val (by rw [← hacc.out]; simp [textAcc]), by go_grown⟩

end Go.Proofs.Ytcjeonamebnpfaa
