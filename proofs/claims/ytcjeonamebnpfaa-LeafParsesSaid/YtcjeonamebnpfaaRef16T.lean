/-
  The walk of the document's bytes of entries (layer 16).
-/
import Derived.Test.YtcjeonamebnpfaaEnt
import Derived.BigRegion
namespace Go.Proofs.Ytcjeonamebnpfaa
open Go.RowKit

theorem entText_step {l : List Ent} {i : Nat} (hi : i < l.length) : entText (l.take (i + 1)) = entText (l.take i) ++ (l[i]).bytes := by
  rw [List.take_succ_eq_append_getElem hi]; simp only [entText, List.flatMap_append, List.flatMap_cons, List.flatMap_nil, List.append_nil]

set_option maxHeartbeats 1000000 in
theorem refEntText_any (ao : Option Addr) (cap : Nat) (l : List Ent) (w : World) (hl : l.length ≤ 1000000) (hw : ∀ u ∈ l, u.key.length ≤ 1000 ∧ u.val.length ≤ 1000) (hs : SlAt Ent.cells 2 w ao l) :
    Calls Try.prog 29 #[.slice ao l.length cap] w fun e w' => e = .returned (.string (S (entText l))) ∧ Below w.heap.size w w' := by
  have hcv := fun w n c => run_str1 (P := Try.prog) 47 9 5 Try.underlying47 Try.underlying5 Try.underlying9 w n c
  go_enter Try.func29, Try.ntmps29
  go_wp2
  go_loopw [3, 4] (fun s i wr => ∃ (j : Nat) (acc : List UInt8), j ≤ l.length ∧ Hid (acc = entText (l.take j)) ∧ acc.length ≤ j * 4000 ∧ s = .string (S acc) ∧ i = .int .i64 j ∧ Below w.heap.size w wr) (fun _ i _ => l.length - (intOf i).toNat)
  case atStart => exact ⟨0, [], Nat.zero_le _, by simp [entText, Hid], by simp, rfl, rfl, by go_grown⟩
  case round =>
    obtain ⟨j, acc, hj, hacc, hal, rfl, rfl, hB⟩ := hrel
    have hz := hB.size
    by_cases hlt : j < l.length
    · obtain ⟨b, off, rfl, hbl, hcs⟩ := (hs.kept hB (Nat.le_refl _)).at (by omega)
      obtain ⟨c0, c1⟩ := entCells hcs j hlt
      have hwf := hw _ (List.getElem_mem hlt)
      have hst := Lib.hid (entText_step hlt)
      clear hcs hs hw
      generalize l[j] = u at c0 c1 hwf hst
      obtain ⟨key, val⟩ := u
      obtain ⟨hk, hv⟩ := hwf
      dsimp only at c0 c1 hk hv
      have hlt' : (j : Int) < l.length := by omega
      go_wp2
      go_big_region
      all_goals go_wp2
      all_goals
        go_roundw
        case rel => exact ⟨j + 1, acc ++ (Ent.mk key val).bytes, by omega, Lib.hid (by rw [hst.out, ← hacc.out]), by simp [Ent.bytes]; omega, by simp [Ent.bytes, ofNat_mod], by go_num, by go_grown⟩
        case measure => simp [intOf]; omega
    · obtain rfl : j = l.length := by omega
      go_wp2
      go_ret
      exact ⟨ret_val (by rw [hacc.out]; simp), by go_grown⟩

end Go.Proofs.Ytcjeonamebnpfaa
