/-
  The walk of (rec.Update).Check: as the document's.
-/
import Derived.Test.YtcjeonamebnpfaaRef12C
namespace Go.Proofs.Ytcjeonamebnpfaa
open Go.RowKit

set_option maxRecDepth 100000 in
set_option maxHeartbeats 2000000 in
theorem chk_big (u : Upd) (h : u.key.length < 1 ∨ 16 < u.key.length ∨ 32 < u.val.length) (w : World) :
    Calls Try.prog 76 #[.agg #[.int .u8 u.kind, .string (S u.key), .string (S u.val), .int .u64 u.delta]] w fun e w' => e = .returned (.int .i64 u.check) ∧ Below w.heap.size w w' := by
  have H := Lib.hid (check_big u h)
  by_cases h0 : u.key = []
  · have he : u.key.isEmpty = true := by rw [h0]; rfl
    clear h
    go_enter Try.func76, Try.ntmps76
    go_wp2
    all_goals (go_ret; exact ⟨ret_int H.out, by go_grown⟩)
  · have he : u.key.isEmpty = false := by cases hk : u.key <;> simp [hk] at h0 ⊢
    by_cases h1 : 16 < u.key.length
    · clear h
      go_enter Try.func76, Try.ntmps76
      go_wp2
      all_goals (go_ret; exact ⟨ret_int H.out, by go_grown⟩)
    · have h2 : 32 < u.val.length := by
        rcases h with h | h | h
        · exact absurd (List.eq_nil_of_length_eq_zero (by omega)) h0
        · exact absurd h h1
        · exact h
      clear h
      go_enter Try.func76, Try.ntmps76
      go_wp2
      all_goals (go_ret; exact ⟨ret_int H.out, by go_grown⟩)

set_option maxRecDepth 100000 in
set_option maxHeartbeats 2000000 in
theorem chk_fits (u : Upd) (h : ¬ (u.key.length < 1 ∨ 16 < u.key.length ∨ 32 < u.val.length)) (hu : u.Wf) (w : World) :
    Calls Try.prog 76 #[.agg #[.int .u8 u.kind, .string (S u.key), .string (S u.val), .int .u64 u.delta]] w fun e w' => e = .returned (.int .i64 u.check) ∧ Below w.heap.size w w' := by
  obtain ⟨hk, hd⟩ := hu
  obtain ⟨h1, h2, h3⟩ : 1 ≤ u.key.length ∧ u.key.length ≤ 16 ∧ u.val.length ≤ 32 := by omega
  have he : u.key.isEmpty = false := by cases hk : u.key <;> simp [hk] at h1 ⊢
  have H := Lib.hid h
  clear h
  go_enter Try.func76, Try.ntmps76
  go_wp2
  all_goals (go_ret; refine ⟨ret_int ?_, by go_grown⟩; go_light; (try simp only [bne_iff_ne, bne_eq_false_iff_eq, ne_eq] at *); by_cases hv : u.val = [])
  all_goals first
    | contradiction
    | exact check_fine u H.out (by simp [hv]; omega)
    | exact check_arg u H.out (by simp [hv]; omega)

theorem chk (kd : Nat) (key val : List UInt8) (dl : Nat) (hk : kd < 256) (hd : dl < 18446744073709551616) (w : World) :
    Calls Try.prog 76 #[.agg #[.int .u8 kd, .string (S key), .string (S val), .int .u64 dl]] w fun e w' => e = .returned (.int .i64 (Upd.mk kd key val dl).check) ∧ Below w.heap.size w w' := by
  by_cases h : key.length < 1 ∨ 16 < key.length ∨ 32 < val.length
  · exact chk_big ⟨kd, key, val, dl⟩ h w
  · exact chk_fits ⟨kd, key, val, dl⟩ h ⟨hk, hd⟩ w

end Go.Proofs.Ytcjeonamebnpfaa
