/-
  The walks of the document's layer 12: whether an update may be; the bytes of updates.
-/
import Derived.Test.YtcjeonamebnpfaaRecU
import Derived.Test.YtcjeonamebnpfaaRef01
import Derived.Deep.Light
namespace Go.Proofs.Ytcjeonamebnpfaa
open Go.RowKit

theorem check_big (u : Upd) (h : u.key.length < 1 ∨ 16 < u.key.length ∨ 32 < u.val.length) : (13 : Int) = (u.check : Nat) := by rw [Upd.check, if_pos h]; rfl
theorem check_arg (u : Upd) (h : ¬ (u.key.length < 1 ∨ 16 < u.key.length ∨ 32 < u.val.length)) (k : u.kind < 1 ∨ 3 < u.kind ∨ (u.kind ≠ 1 ∧ u.val ≠ []) ∨ (u.kind ≠ 3 ∧ u.delta ≠ 0)) : (2 : Int) = (u.check : Nat) := by
  rw [Upd.check, if_neg h, if_pos k]; rfl
theorem check_fine (u : Upd) (h : ¬ (u.key.length < 1 ∨ 16 < u.key.length ∨ 32 < u.val.length)) (k : ¬ (u.kind < 1 ∨ 3 < u.kind ∨ (u.kind ≠ 1 ∧ u.val ≠ []) ∨ (u.kind ≠ 3 ∧ u.delta ≠ 0))) : (0 : Int) = (u.check : Nat) := by
  rw [Upd.check, if_neg h, if_neg k]; rfl

set_option maxHeartbeats 400000 in
theorem refCheck_any (u : Upd) (hu : u.Wf) (w : World) :
    Calls Try.prog 57 #[.agg #[.int .u8 u.kind, .string (S u.key), .string (S u.val), .int .u64 u.delta]] w fun e w' => e = .returned (.int .i64 u.check) ∧ Below w.heap.size w w' := by
  obtain ⟨hk, hd⟩ := hu
  by_cases h : u.key.length < 1 ∨ 16 < u.key.length ∨ 32 < u.val.length
  · have H := Lib.hid h
    clear h
    go_enter Try.func57, Try.ntmps57
    go_wp2
    all_goals first
      | (go_ret; exact ⟨ret_int (check_big u H.out), by go_grown⟩)
      | (exfalso; have := H.out; omega)
  · obtain ⟨h1, h2, h3⟩ : 1 ≤ u.key.length ∧ u.key.length ≤ 16 ∧ u.val.length ≤ 32 := by omega
    have H := Lib.hid h
    clear h
    go_enter Try.func57, Try.ntmps57
    go_wp2
    all_goals (go_ret; refine ⟨ret_int ?_, by go_grown⟩; go_light; (try simp only [bne_iff_ne, bne_eq_false_iff_eq, ne_eq] at *); by_cases hv : u.val = [])
    all_goals first
      | contradiction
      | exact check_fine u H.out (by simp [hv]; omega)
      | exact check_arg u H.out (by simp [hv]; omega)

theorem refCheck (kd : Nat) (key val : List UInt8) (dl : Nat) (hk : kd < 256) (hd : dl < 18446744073709551616) (w : World) :
    Calls Try.prog 57 #[.agg #[.int .u8 kd, .string (S key), .string (S val), .int .u64 dl]] w fun e w' => e = .returned (.int .i64 (Upd.mk kd key val dl).check) ∧ Below w.heap.size w w' :=
  refCheck_any ⟨kd, key, val, dl⟩ ⟨hk, hd⟩ w

end Go.Proofs.Ytcjeonamebnpfaa
