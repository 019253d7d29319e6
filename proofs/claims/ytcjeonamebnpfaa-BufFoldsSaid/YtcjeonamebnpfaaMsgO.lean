/-
  The walks of msg.On, msg.Join.
-/
import Derived.Test.YtcjeonamebnpfaaMsg
namespace Go.Proofs.Ytcjeonamebnpfaa
open Go.RowKit

theorem onL_add0 (v : List UInt8) (u : Upd) (h : u.kind = 3) : onL v false u = (le (u.delta % 18446744073709551616) 8, true) := by
  unfold onL; rw [if_neg (by omega), if_neg (by omega), if_pos h, if_pos rfl]
theorem onL_add8 (v : List UInt8) (u : Upd) (h : u.kind = 3) (h8 : v.length = 8) : onL v true u = (le ((numL v + u.delta) % 18446744073709551616) 8, true) := by
  unfold onL; rw [if_neg (by omega), if_neg (by omega), if_pos h, if_neg (by simp), if_pos h8]
theorem onL_add (v : List UInt8) (u : Upd) (h : u.kind = 3) (h8 : ¬ v.length = 8) : onL v true u = (v, true) := by
  unfold onL; rw [if_neg (by omega), if_neg (by omega), if_pos h, if_neg (by simp), if_neg h8]
theorem onL_other (v : List UInt8) (there : Bool) (u : Upd) (h1 : ¬ u.kind = 1) (h2 : ¬ u.kind = 2) (h3 : ¬ u.kind = 3) : onL v there u = (if there then v else [], there) := by
  unfold onL; rw [if_neg h1, if_neg h2, if_neg h3]
theorem onL_put (v : List UInt8) (there : Bool) (u : Upd) (h : u.kind = 1) : onL v there u = (u.val, true) := by
  unfold onL; rw [if_pos h]
theorem onL_del (v : List UInt8) (there : Bool) (u : Upd) (h : u.kind = 2) : onL v there u = ([], false) := by
  unfold onL; rw [if_neg (by omega), if_pos h]
theorem onL_len (v : List UInt8) (there : Bool) (u : Upd) (n : Nat) (h : v.length ≤ n) (hu : u.val.length ≤ n) (h8 : 8 ≤ n) : (onL v there u).1.length ≤ n := by
  unfold onL
  repeat' split
  all_goals first | exact hu | exact h | (simp; done) | (simp; omega)

theorem u64_sum (a b : Nat) : IntKind.u64.wrap ((a : Int) + (b : Int)) = (((a + b) % 18446744073709551616 : Nat) : Int) := by
  rw [IntKind.wrap_u64]; omega
theorem mod64_lt (n : Nat) : n % 18446744073709551616 < 18446744073709551616 := Nat.mod_lt _ (by decide)

set_option maxRecDepth 100000 in
set_option maxHeartbeats 2000000 in
theorem on_any (v : List UInt8) (there : Bool) (kd : Nat) (key val : List UInt8) (dl : Nat) (hv : v.length ≤ 1000000) (hk : kd < 256) (hd : dl < 18446744073709551616) (w : World) :
    Calls Try.prog 24 #[.string (S v), .bool there, .agg #[.int .u8 kd, .string (S key), .string (S val), .int .u64 dl]] w fun e w' => e = .returned (onV v there ⟨kd, key, val, dl⟩) ∧ Below w.heap.size w w' := by
  have hkd : (kd : Int) < 256 := by omega
  have hdl : (dl : Int) < 18446744073709551616 := by omega
  by_cases h1 : kd = 1
  · subst h1
    have hV : Hid (onV v there ⟨1, key, val, dl⟩ = .tuple #[.string (S val), .bool true]) := Lib.hid (by rw [onV, onL_put _ _ _ rfl])
    cases there
    all_goals
      go_enter Try.func24, Try.ntmps24
      go_wp2_with fail
      go_ret2
      exact ⟨ret_val (by rw [hV.out]; rfl), by go_grown⟩
  · by_cases h2 : kd = 2
    · subst h2
      have hV : Hid (onV v there ⟨2, key, val, dl⟩ = .tuple #[.string (S []), .bool false]) := Lib.hid (by rw [onV, onL_del _ _ _ rfl])
      clear h1
      cases there
      all_goals
        go_enter Try.func24, Try.ntmps24
        go_wp2_with fail
        go_ret2
        exact ⟨ret_val (by rw [hV.out]; rfl), by go_grown⟩
    · by_cases h3 : kd = 3
      · subst h3
        clear h1 h2
        cases there with
        | false =>
          have hV : Hid (onV v false ⟨3, key, val, dl⟩ = .tuple #[.string (S (le dl 8)), .bool true]) := Lib.hid (by rw [onV, onL_add0 _ _ rfl, Nat.mod_eq_of_lt hd])
          go_enter Try.func24, Try.ntmps24
          go_wp2_with (first | (go_at_call 53; refine (thread (number_any [] (by simp) _) w.heap.size w (by go_grown) (by go_grown)).mono ?_; rintro e w1 ⟨rfl, hB, hc1, -, hs1, hz1⟩; have d3 := (hc1 w.heap.size 3 (by simp)).trans (by simp; rfl); clear hc1) | (go_at_call 49; refine (thread (value_any dl hd _) w.heap.size w (by go_grown) (by go_grown)).mono ?_; rintro e w2 ⟨rfl, hB2, -, -, -, -⟩))
          go_ret2
          exact ⟨ret_val (by rw [hV.out]; rfl), hB2⟩
        | true =>
          by_cases h8 : v.length = 8
          · have hn := numL_64 h8
            have hV : Hid (onV v true ⟨3, key, val, dl⟩ = .tuple #[.string (S (le ((numL v + dl) % 18446744073709551616) 8)), .bool true]) := Lib.hid (by rw [onV, onL_add8 _ _ rfl h8])
            have hnum := fun w => number_any v hv w
            simp only [h8, if_true, decide_true] at hnum
            have hnum' := Lib.hid hnum
            clear hnum h8
            generalize numL v = n at *
            go_enter Try.func24, Try.ntmps24
            go_wp2_with (first | (go_at_call 53; refine (thread (hnum'.out _) w.heap.size w (by go_grown) (by go_grown)).mono ?_; rintro e w1 ⟨rfl, hB, hc1, -, hs1, hz1⟩; have d3 := (hc1 w.heap.size 3 (by simp)).trans (by simp; rfl); clear hc1) | (go_at_call 49; rw [u64_sum]; refine (thread (value_any _ (mod64_lt _) _) w.heap.size w (by go_grown) (by go_grown)).mono ?_; rintro e w2 ⟨rfl, hB2, -, -, -, -⟩))
            go_ret2
            exact ⟨ret_val (by rw [hV.out]; rfl), hB2⟩
          · have hV : Hid (onV v true ⟨3, key, val, dl⟩ = .tuple #[.string (S v), .bool true]) := Lib.hid (by rw [onV, onL_add _ _ rfl h8])
            have hnum := fun w => number_any v hv w
            simp only [h8, if_false, decide_false] at hnum
            have hnum' := Lib.hid hnum
            clear hnum h8
            go_enter Try.func24, Try.ntmps24
            go_wp2_with (first | (go_at_call 53; refine (thread (hnum'.out _) w.heap.size w (by go_grown) (by go_grown)).mono ?_; rintro e w1 ⟨rfl, hB, hc1, -, hs1, hz1⟩; clear hc1))
            go_ret2
            exact ⟨ret_val (by rw [hV.out]; rfl), hB⟩
      · have hV : Hid (onV v there ⟨kd, key, val, dl⟩ = .tuple #[.string (S (if there then v else [])), .bool there]) := Lib.hid (by rw [onV, onL_other _ _ _ h1 h2 h3])
        have e1 : ((kd : Int) == 1) = false := by rw [beq_eq_false_iff_ne]; omega
        have e2 : ((kd : Int) == 2) = false := by rw [beq_eq_false_iff_ne]; omega
        have e3 : ((kd : Int) == 3) = false := by rw [beq_eq_false_iff_ne]; omega
        clear h1 h2 h3
        cases there
        all_goals
          go_enter Try.func24, Try.ntmps24
          go_wp2_with fail
          go_ret2
          exact ⟨ret_val (by rw [hV.out]; rfl), by go_grown⟩

theorem joinL_not (f t : Upd) (h : ¬ t.kind = 3) : joinL f t = t := by unfold joinL; rw [if_pos h]
theorem joinL_add (f t : Upd) (h : t.kind = 3) (k : f.kind = 3) : joinL f t = ⟨3, t.key, t.val, (t.delta + f.delta) % 18446744073709551616⟩ := by
  unfold joinL; rw [if_neg (by simp [h]), if_pos k]
  obtain ⟨a, b, c, d⟩ := t
  simp only at h; subst h; rfl
theorem joinL_put (f t : Upd) (h : t.kind = 3) (k : ¬ f.kind = 3) : joinL f t = ⟨1, t.key, (onL (onL [] false f).1 (onL [] false f).2 t).1, 0⟩ := by
  unfold joinL; rw [if_neg (by simp [h]), if_neg k]
/-- An update as a value. -/
def updV (u : Upd) : Value := .agg #[.int .u8 u.kind, .string (S u.key), .string (S u.val), .int .u64 u.delta]

set_option maxRecDepth 100000 in
set_option maxHeartbeats 2000000 in
theorem join_any (f : Upd) (kd : Nat) (key val : List UInt8) (dl : Nat) (hf : f.Wf) (hfv : f.val.length ≤ 1000000) (hk : kd < 256) (hd : dl < 18446744073709551616) (w : World) :
    Calls Try.prog 47 #[.agg #[.int .u8 f.kind, .string (S f.key), .string (S f.val), .int .u64 f.delta], .agg #[.int .u8 kd, .string (S key), .string (S val), .int .u64 dl]] w fun e w' => e = .returned (updV (joinL f ⟨kd, key, val, dl⟩)) ∧ Below w.heap.size w w' := by
  obtain ⟨fk, fkey, fval, fd⟩ := f
  obtain ⟨hfk, hfd⟩ := hf
  dsimp only at hfk hfd hfv
  by_cases h3 : kd = 3
  · subst h3
    by_cases hf3 : fk = 3
    · subst hf3
      have hV := Lib.hid (joinL_add ⟨3, fkey, fval, fd⟩ ⟨3, key, val, dl⟩ rfl rfl)
      go_enter Try.func47, Try.ntmps47
      go_wp2_with fail
      exact bodyPost_ret (v := .agg #[.int .u8 3, .string (S key), .string (S val), .int .u64 (IntKind.u64.wrap (dl + fd))]) (by simp [results, Try.results47, go_sem]) rfl ⟨ret_val (by rw [hV.out, u64_sum]; rfl), by go_grown⟩
    · have e3 : ((fk : Int) == 3) = false := by rw [beq_eq_false_iff_ne]; omega
      obtain ⟨x, hx⟩ : ∃ x, onL [] false ⟨fk, fkey, fval, fd⟩ = x := ⟨_, rfl⟩
      obtain ⟨y, hy⟩ : ∃ y, onL x.1 x.2 ⟨3, key, val, dl⟩ = y := ⟨_, rfl⟩
      have hV := Lib.hid (joinL_put ⟨fk, fkey, fval, fd⟩ ⟨3, key, val, dl⟩ rfl hf3)
      have hxl := onL_len [] false ⟨fk, fkey, fval, fd⟩ 1000000 (by simp) hfv (by omega)
      have hc1 := fun w => on_any [] false fk fkey fval fd (by simp) hfk hfd w
      simp only [onV] at hc1
      rw [hx] at hxl
      simp only [hx] at hc1
      have hc2 := fun w => on_any x.1 x.2 3 key val dl hxl (by omega) hd w
      simp only [onV] at hc2
      simp only [hy] at hc2
      have hV' : Hid (updV (joinL ⟨fk, fkey, fval, fd⟩ ⟨3, key, val, dl⟩) = .agg #[.int .u8 1, .string (S key), .string (S y.1), .int .u64 0]) := Lib.hid (by
        rw [hV.out, hx, hy]; rfl)
      have H1 := Lib.hid hc1
      have H2 := Lib.hid hc2
      clear hc1 hc2 hx hy hV hf3 hxl
      obtain ⟨x1, x2⟩ := x
      obtain ⟨y1, y2⟩ := y
      dsimp only at H1 H2 hV'
      go_enter Try.func47, Try.ntmps47
      go_wp2_with fail
      refine (thread (H1.out _) w.heap.size w (by go_grown) (by go_grown)).mono ?_
      rintro e w1 ⟨rfl, hB1, hk1, hf1, hs1, hz1⟩
      have a0 := (hk1 (w.heap.size + 1) 0 (by simp)).trans (by simp [go_sem]; rfl)
      have a1 := (hk1 (w.heap.size + 1) 1 (by simp)).trans (by simp [go_sem]; rfl)
      have a2 := (hk1 (w.heap.size + 1) 2 (by simp)).trans (by simp [go_sem]; rfl)
      have a3 := (hk1 (w.heap.size + 1) 3 (by simp)).trans (by simp [go_sem]; rfl)
      have b0 := (hk1 (w.heap.size + 1 + 1) 0 (by simp)).trans (by simp [go_sem]; rfl)
      have b1 := (hk1 (w.heap.size + 1 + 1) 1 (by simp)).trans (by simp [go_sem]; rfl)
      have b2 := (hk1 (w.heap.size + 1 + 1) 2 (by simp)).trans (by simp [go_sem]; rfl)
      have b3 := (hk1 (w.heap.size + 1 + 1) 3 (by simp)).trans (by simp [go_sem]; rfl)
      have g0 : ∀ o, w1.frozen? ⟨w.heap.size + 1 + 1, o, none⟩ = false := fun o => (hf1 (w.heap.size + 1 + 1) o (by simp)).trans (by simp [go_sem])
      have hs1' : w.heap.size + 1 + 1 < w1.heap.size := by simp at hs1; omega
      clear hk1 hf1 hs1
      go_wp2_with fail
      refine (thread (H2.out _) w.heap.size w hB1 hz1).mono ?_
      rintro e w2 ⟨rfl, hB2, hk2, hf2, hs2, hz2⟩
      have c1 := (hk2 (w.heap.size + 1) 1 (by omega)).trans a1
      have d0 := (hk2 (w.heap.size + 1 + 1) 0 (by omega)).trans b0
      have d1 := (hk2 (w.heap.size + 1 + 1) 1 (by omega)).trans b1
      have d2 := (hk2 (w.heap.size + 1 + 1) 2 (by omega)).trans b2
      have d3 := (hk2 (w.heap.size + 1 + 1) 3 (by omega)).trans b3
      have g2 := fun o => (hf2 (w.heap.size + 1 + 1) o (by omega)).trans (g0 o)
      clear hk2 hf2 a0 a1 a2 a3 b0 b1 b2 b3 g0
      go_wp2_with fail
      exact bodyPost_ret (v := .agg #[.int .u8 1, .string (S key), .string (S y1), .int .u64 0]) (by simp [results, Try.results47, go_sem, d0, d1, d2, d3]) rfl ⟨ret_val hV'.out.symm, by go_grown⟩
  · have e3 : ((kd : Int) != 3) = true := by rw [bne_iff_ne]; omega
    have hV := Lib.hid (joinL_not ⟨fk, fkey, fval, fd⟩ ⟨kd, key, val, dl⟩ h3)
    clear h3
    go_enter Try.func47, Try.ntmps47
    go_wp2_with fail
    exact bodyPost_ret (v := .agg #[.int .u8 kd, .string (S key), .string (S val), .int .u64 dl]) (by simp [results, Try.results47, go_sem]) rfl ⟨ret_val (by rw [hV.out]; rfl), by go_grown⟩

end Go.Proofs.Ytcjeonamebnpfaa
