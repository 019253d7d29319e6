/-
  The walks of the document's Get of a number, and of its On of a value.
-/
import Derived.Test.YtcjeonamebnpfaaMsgO
import Derived.Test.YtcjeonamebnpfaaRef01
import Derived.Test.YtcjeonamebnpfaaUse
import Derived.BigQuiet
import Derived.Deep.DrawnRows
namespace Go.Proofs.Ytcjeonamebnpfaa
open Go.RowKit

set_option maxHeartbeats 1000000 in
theorem refGet_any (v : List UInt8) (hv : v.length ≤ 8) (w : World) :
    Calls Try.prog 80 #[.string (S v)] w fun e w' => e = .returned (.int .u64 (numL v : Nat)) ∧ Below w.heap.size w w' := by
  have hw0 : IntKind.i64.wrap ((v.length : Int) - 1) = (v.length : Int) - 1 := IntWalk.i64_in _ (by omega)
  go_enter Try.func80, Try.ntmps80
  go_wp2_with fail
  go_loopw [3, 4] (fun n i wr => ∃ j : Nat, j ≤ v.length ∧ i = .int .i64 ((j : Int) - 1) ∧ n = .int .u64 (numL (v.drop j) : Nat) ∧ Below w.heap.size w wr) (fun _ i _ => (intOf i + 1).toNat)
  case atStart => exact ⟨v.length, Nat.le_refl _, rfl, by rw [List.drop_length]; rfl, Below.refl _ _⟩
  case round =>
    obtain ⟨j, hj, rfl, rfl, hB⟩ := hrel
    rcases j with _ | q
    · rw [show ((0 : Nat) : Int) - 1 = -1 from rfl]
      go_wp2_with fail
      go_ret
      exact ⟨rfl, hB⟩
    · rw [show ((q + 1 : Nat) : Int) - 1 = (q : Int) by omega]
      have hq : q < v.length := by omega
      have hq0 : (0 : Int) ≤ (q : Int) := by omega
      have hq1 : (q : Int) < (v.length : Int) := by omega
      have hqw : IntKind.i64.wrap ((q : Int) - 1) = (q : Int) - 1 := IntWalk.i64_in _ (by omega)
      have hd : numL (v.drop q) = v[q].toNat + 256 * numL (v.drop (q + 1)) := by rw [List.drop_eq_getElem_cons hq]; rfl
      have hb : numL (v.drop q) < 18446744073709551616 := by
        have h1 := numL_lt (v.drop q)
        rw [List.length_drop] at h1
        have h2 : 256 ^ (v.length - q) ≤ 256 ^ 8 := Nat.pow_le_pow_right (by decide) (by omega)
        have h3 : (256 : Nat) ^ 8 = 18446744073709551616 := by decide
        omega
      have Hd := Lib.hid hd
      have Hb := Lib.hid hb
      clear hd hb
      go_wp2_with fail
      refine ⟨⟨q, by omega, rfl, ?_, hB⟩, by simp [intOf]⟩
      rw [Hd.out]
      have h1 := Hd.out
      have h2 := Hb.out
      generalize numL (v.drop (q + 1)) = N at *
      generalize v[q].toNat = b at *
      congr 1
      simp only [IntKind.wrap_u64]
      omega
theorem refOn_len (v : List UInt8) (there : Bool) : (if there then v else []).length ≤ v.length := by cases there <;> simp
set_option maxRecDepth 100000 in
set_option maxHeartbeats 2000000 in
theorem refOn_any (v : List UInt8) (there : Bool) (kd : Nat) (key val : List UInt8) (dl : Nat) (hk : kd < 256) (hd : dl < 18446744073709551616) (w : World) :
    Calls Try.prog 58 #[.string (S v), .bool there, .agg #[.int .u8 kd, .string (S key), .string (S val), .int .u64 dl]] w fun e w' => e = .returned (onV v there ⟨kd, key, val, dl⟩) ∧ Below w.heap.size w w' := by
  have hkd : (kd : Int) < 256 := by omega
  by_cases h1 : kd = 1
  · subst h1
    unfold onV
    rw [onL_put _ _ _ rfl]
    go_enter Try.func58, Try.ntmps58
    go_wp2_with fail
    go_ret2
    exact ⟨rfl, by go_grown⟩
  by_cases h2 : kd = 2
  · subst h2
    unfold onV
    rw [onL_del _ _ _ rfl]
    go_enter Try.func58, Try.ntmps58
    go_wp2_with fail
    go_ret2
    exact ⟨rfl, by go_grown⟩
  have g1 : ¬ (kd : Int) = 1 := by omega
  have g2 : ¬ (kd : Int) = 2 := by omega
  have b1 : ((kd : Int) == 1) = false := by simpa using g1
  have b2 : ((kd : Int) == 2) = false := by simpa using g2
  by_cases h3 : kd = 3
  · subst h3
    clear b1 b2 g1 g2
    cases there with
    | false =>
      have hdm : dl % 18446744073709551616 = dl := Nat.mod_eq_of_lt hd
      have hput := fun w => put_any dl hd 8 (by decide) (by decide) w
      unfold onV
      rw [onL_add0 _ _ rfl]
      simp only [hdm]
      have hg : ∀ w, Calls Try.prog 80 #[.string ⟨#[]⟩] w fun e w' => e = .returned (.int .u64 0) ∧ Below w.heap.size w w' := fun w => refGet_any [] (by decide) w
      have hwd : IntKind.u64.wrap (dl : Int) = (dl : Int) := by rw [IntKind.wrap_u64]; omega
      clear hdm
      go_enter Try.func58, Try.ntmps58
      go_wp2_with fail
      refine (thread (hg _) w.heap.size w (by go_grown) (by go_grown)).mono ?_
      rintro e w1 ⟨rfl, hB1, hk1, -, -, hz1⟩
      have p3 := (hk1 w.heap.size 3 (by simp)).trans (by simp [go_sem]; rfl)
      clear hk1 hg
      go_wp2_with fail
      refine (thread (hput _) w.heap.size w (by go_grown) (by go_grown)).mono ?_
      rintro e w2 ⟨rfl, hB2, -, -, -, -⟩
      go_wp2_with fail
      go_ret2
      exact ⟨rfl, hB2⟩
    | true =>
      by_cases h8 : v.length = 8
      · have hsum := u64_sum (numL v) dl
        unfold onV
        rw [onL_add8 _ _ rfl h8]
        have hput := fun w => put_any ((numL v + dl) % 18446744073709551616) (mod64_lt _) 8 (by decide) (by decide) w
        have hg := fun w => refGet_any v (by omega) w
        have h8' : (v.length : Int) = 8 := by omega
        have h8n : ((v.length : Int) != 8) = false := by simp [h8']
        generalize (numL v + dl) % 18446744073709551616 = N at *
        generalize numL v = M at *
        clear h8'
        go_enter Try.func58, Try.ntmps58
        go_wp2_with fail
        refine (thread (hg _) w.heap.size w (by go_grown) (by go_grown)).mono ?_
        rintro e w1 ⟨rfl, hB1, hk1, -, -, hz1⟩
        have p3 := (hk1 w.heap.size 3 (by simp)).trans (by simp [go_sem]; rfl)
        clear hk1 hg
        go_wp2_with fail
        refine (thread (hput _) w.heap.size w (by go_grown) (by go_grown)).mono ?_
        rintro e w2 ⟨rfl, hB2, -, -, -, -⟩
        go_wp2_with fail
        go_ret2
        exact ⟨rfl, hB2⟩
      · unfold onV
        rw [onL_add _ _ rfl h8]
        have h8n : ((v.length : Int) != 8) = true := by simp; omega
        go_enter Try.func58, Try.ntmps58
        go_wp2_with fail
        go_ret2
        exact ⟨rfl, by go_grown⟩
  · have g3 : ¬ (kd : Int) = 3 := by omega
    have b3 : ((kd : Int) == 3) = false := by simpa using g3
    have b3' : ((kd : Int) != 3) = true := by simpa using g3
    unfold onV
    rw [onL_other _ _ _ h1 h2 h3]
    cases there with
    | false =>
      go_enter Try.func58, Try.ntmps58
      go_wp2_with fail
      go_ret2
      exact ⟨rfl, by go_grown⟩
    | true =>
      go_enter Try.func58, Try.ntmps58
      go_wp2_with fail
      go_ret2
      exact ⟨rfl, by go_grown⟩

end Go.Proofs.Ytcjeonamebnpfaa
