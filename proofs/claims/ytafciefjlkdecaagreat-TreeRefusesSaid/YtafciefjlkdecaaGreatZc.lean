/-
  The walks of msg.On, msg.Join.
  The walks of (buf.Buffer).Get, and of the updates that the statements make.
  Updates held against each other; a buffer's list, its length by name.
  The walks of strings.Builder's copyCheck, WriteString and String (after the shelf's own), and of lend.Join.
  The walks of the document's layer 1: a number in a width.
  The walks of the document's layer 12: whether an update may be; the bytes of updates.
  The walk of (rec.Update).Check: as the document's.
  The walk of slices.Insert of one element into a row of the call's own, at updates.
  The walk of (buf.Buffer).With.
-/
import Derived.Test.YtafciefjlkdecaaGreatZb
import Derived.Test.YtafciefjlkdecaaGreatZa
import Derived.Deep.RegionHeld3
import Derived.Deep.DrawnRows
import Derived.Lib.Builder
import Derived.Lib.AppendStr
import Derived.Lib.Walk
import Derived.Laws.Externs
import Derived.Lib.UnsafeStr
import Derived.BigRegion
import Derived.Deep.Light
namespace Go.Proofs.YtafciefjlkdecaaGreat
open Go.RowKit

theorem onL_add0 (v : List UInt8) (u : Upd) (h : u.kind = 3) : onL v false u = (le (u.delta % 18446744073709551616) 8, true) := by
  unfold onL; rw [if_neg (by omega), if_neg (by omega), if_pos h, if_pos rfl]
theorem onL_add8 (v : List UInt8) (u : Upd) (h : u.kind = 3) (h8 : v.length = 8) : onL v true u = (le ((numL v + u.delta) % 18446744073709551616) 8, true) := by
  unfold onL; rw [if_neg (by omega), if_neg (by omega), if_pos h, if_neg (by simp), if_pos h8]
theorem onL_add (v : List UInt8) (u : Upd) (h : u.kind = 3) (h8 : ¬ v.length = 8) : onL v true u = (v, true) := by
  unfold onL; rw [if_neg (by omega), if_neg (by omega), if_pos h, if_neg (by simp), if_neg h8]
theorem onL_other (v : List UInt8) (there : Bool) (u : Upd) (h1 : ¬ u.kind = 1) (h2 : ¬ u.kind = 2) (h3 : ¬ u.kind = 3) : onL v there u = (if there then v else [], there) := by
  unfold onL; rw [if_neg h1, if_neg h2, if_neg h3]
theorem onL_put (v : List UInt8) (there : Bool) (u : Upd) (h : u.kind = 1) : onL v there u = (u.val, true) := by
  unfold onL; rw [if_pos h]
theorem onL_del (v : List UInt8) (there : Bool) (u : Upd) (h : u.kind = 2) : onL v there u = ([], false) := by
  unfold onL; rw [if_neg (by omega), if_pos h]
theorem onL_len (v : List UInt8) (there : Bool) (u : Upd) (n : Nat) (h : v.length ≤ n) (hu : u.val.length ≤ n) (h8 : 8 ≤ n) : (onL v there u).1.length ≤ n := by
  unfold onL
  repeat' split
  all_goals first | exact hu | exact h | (simp; done) | (simp; omega)

theorem u64_sum (a b : Nat) : IntKind.u64.wrap ((a : Int) + (b : Int)) = (((a + b) % 18446744073709551616 : Nat) : Int) := by
  rw [IntKind.wrap_u64]; omega
theorem mod64_lt (n : Nat) : n % 18446744073709551616 < 18446744073709551616 := Nat.mod_lt _ (by decide)

set_option maxRecDepth 100000 in
set_option maxHeartbeats 2000000 in
theorem on_any (v : List UInt8) (there : Bool) (kd : Nat) (key val : List UInt8) (dl : Nat) (hv : v.length ≤ 1000000) (hk : kd < 256) (hd : dl < 18446744073709551616) (w : World) :
    Calls Tryz.prog 89 #[.string (S v), .bool there, .agg #[.int .u8 kd, .string (S key), .string (S val), .int .u64 dl]] w fun e w' => e = .returned (onV v there ⟨kd, key, val, dl⟩) ∧ Below w.heap.size w w' := by
  have hkd : (kd : Int) < 256 := by omega
  have hdl : (dl : Int) < 18446744073709551616 := by omega
  by_cases h1 : kd = 1
  · subst h1
    have hV : Hid (onV v there ⟨1, key, val, dl⟩ = .tuple #[.string (S val), .bool true]) := Lib.hid (by rw [onV, onL_put _ _ _ rfl])
    cases there
    all_goals
      go_enter Tryz.func89, Tryz.ntmps89
      go_wp2_with fail
      go_ret2
      exact ⟨ret_val (by rw [hV.out]; rfl), by go_grown⟩
  · by_cases h2 : kd = 2
    · subst h2
      have hV : Hid (onV v there ⟨2, key, val, dl⟩ = .tuple #[.string (S []), .bool false]) := Lib.hid (by rw [onV, onL_del _ _ _ rfl])
      clear h1
      cases there
      all_goals
        go_enter Tryz.func89, Tryz.ntmps89
        go_wp2_with fail
        go_ret2
        exact ⟨ret_val (by rw [hV.out]; rfl), by go_grown⟩
    · by_cases h3 : kd = 3
      · subst h3
        clear h1 h2
        cases there with
        | false =>
          have hV : Hid (onV v false ⟨3, key, val, dl⟩ = .tuple #[.string (S (le dl 8)), .bool true]) := Lib.hid (by rw [onV, onL_add0 _ _ rfl, Nat.mod_eq_of_lt hd])
          go_enter Tryz.func89, Tryz.ntmps89
          go_wp2_with (first | (go_at_call 121; refine (thread (number_any [] (by simp) _) w.heap.size w (by go_grown) (by go_grown)).mono ?_; rintro e w1 ⟨rfl, hB, hc1, -, hs1, hz1⟩; have d3 := (hc1 w.heap.size 3 (by simp)).trans (by simp; rfl); clear hc1) | (go_at_call 122; refine (thread (value_any dl hd _) w.heap.size w (by go_grown) (by go_grown)).mono ?_; rintro e w2 ⟨rfl, hB2, -, -, -, -⟩))
          go_ret2
          exact ⟨ret_val (by rw [hV.out]; rfl), hB2⟩
        | true =>
          by_cases h8 : v.length = 8
          · have hn := numL_64 h8
            have hV : Hid (onV v true ⟨3, key, val, dl⟩ = .tuple #[.string (S (le ((numL v + dl) % 18446744073709551616) 8)), .bool true]) := Lib.hid (by rw [onV, onL_add8 _ _ rfl h8])
            have hnum := fun w => number_any v hv w
            simp only [h8, if_true, decide_true] at hnum
            have hnum' := Lib.hid hnum
            clear hnum h8
            generalize numL v = n at *
            go_enter Tryz.func89, Tryz.ntmps89
            go_wp2_with (first | (go_at_call 121; refine (thread (hnum'.out _) w.heap.size w (by go_grown) (by go_grown)).mono ?_; rintro e w1 ⟨rfl, hB, hc1, -, hs1, hz1⟩; have d3 := (hc1 w.heap.size 3 (by simp)).trans (by simp; rfl); clear hc1) | (go_at_call 122; rw [u64_sum]; refine (thread (value_any _ (mod64_lt _) _) w.heap.size w (by go_grown) (by go_grown)).mono ?_; rintro e w2 ⟨rfl, hB2, -, -, -, -⟩))
            go_ret2
            exact ⟨ret_val (by rw [hV.out]; rfl), hB2⟩
          · have hV : Hid (onV v true ⟨3, key, val, dl⟩ = .tuple #[.string (S v), .bool true]) := Lib.hid (by rw [onV, onL_add _ _ rfl h8])
            have hnum := fun w => number_any v hv w
            simp only [h8, if_false, decide_false] at hnum
            have hnum' := Lib.hid hnum
            clear hnum h8
            go_enter Tryz.func89, Tryz.ntmps89
            go_wp2_with (first | (go_at_call 121; refine (thread (hnum'.out _) w.heap.size w (by go_grown) (by go_grown)).mono ?_; rintro e w1 ⟨rfl, hB, hc1, -, hs1, hz1⟩; clear hc1))
            go_ret2
            exact ⟨ret_val (by rw [hV.out]; rfl), hB⟩
      · have hV : Hid (onV v there ⟨kd, key, val, dl⟩ = .tuple #[.string (S (if there then v else [])), .bool there]) := Lib.hid (by rw [onV, onL_other _ _ _ h1 h2 h3])
        have e1 : ((kd : Int) == 1) = false := by rw [beq_eq_false_iff_ne]; omega
        have e2 : ((kd : Int) == 2) = false := by rw [beq_eq_false_iff_ne]; omega
        have e3 : ((kd : Int) == 3) = false := by rw [beq_eq_false_iff_ne]; omega
        clear h1 h2 h3
        cases there
        all_goals
          go_enter Tryz.func89, Tryz.ntmps89
          go_wp2_with fail
          go_ret2
          exact ⟨ret_val (by rw [hV.out]; rfl), by go_grown⟩

theorem joinL_not (f t : Upd) (h : ¬ t.kind = 3) : joinL f t = t := by unfold joinL; rw [if_pos h]
theorem joinL_add (f t : Upd) (h : t.kind = 3) (k : f.kind = 3) : joinL f t = ⟨3, t.key, t.val, (t.delta + f.delta) % 18446744073709551616⟩ := by
  unfold joinL; rw [if_neg (by simp [h]), if_pos k]
  obtain ⟨a, b, c, d⟩ := t
  simp only at h; subst h; rfl
theorem joinL_put (f t : Upd) (h : t.kind = 3) (k : ¬ f.kind = 3) : joinL f t = ⟨1, t.key, (onL (onL [] false f).1 (onL [] false f).2 t).1, 0⟩ := by
  unfold joinL; rw [if_neg (by simp [h]), if_neg k]
/-- An update as a value. -/
def updV (u : Upd) : Value := .agg #[.int .u8 u.kind, .string (S u.key), .string (S u.val), .int .u64 u.delta]

set_option maxRecDepth 100000 in
set_option maxHeartbeats 2000000 in
theorem join_any (f : Upd) (kd : Nat) (key val : List UInt8) (dl : Nat) (hf : f.Wf) (hfv : f.val.length ≤ 1000000) (hk : kd < 256) (hd : dl < 18446744073709551616) (w : World) :
    Calls Tryz.prog 95 #[.agg #[.int .u8 f.kind, .string (S f.key), .string (S f.val), .int .u64 f.delta], .agg #[.int .u8 kd, .string (S key), .string (S val), .int .u64 dl]] w fun e w' => e = .returned (updV (joinL f ⟨kd, key, val, dl⟩)) ∧ Below w.heap.size w w' := by
  obtain ⟨fk, fkey, fval, fd⟩ := f
  obtain ⟨hfk, hfd⟩ := hf
  dsimp only at hfk hfd hfv
  by_cases h3 : kd = 3
  · subst h3
    by_cases hf3 : fk = 3
    · subst hf3
      have hV := Lib.hid (joinL_add ⟨3, fkey, fval, fd⟩ ⟨3, key, val, dl⟩ rfl rfl)
      go_enter Tryz.func95, Tryz.ntmps95
      go_wp2_with fail
      exact bodyPost_ret (v := .agg #[.int .u8 3, .string (S key), .string (S val), .int .u64 (IntKind.u64.wrap (dl + fd))]) (by simp [results, Tryz.results95, go_sem]) rfl ⟨ret_val (by rw [hV.out, u64_sum]; rfl), by go_grown⟩
    · have e3 : ((fk : Int) == 3) = false := by rw [beq_eq_false_iff_ne]; omega
      obtain ⟨x, hx⟩ : ∃ x, onL [] false ⟨fk, fkey, fval, fd⟩ = x := ⟨_, rfl⟩
      obtain ⟨y, hy⟩ : ∃ y, onL x.1 x.2 ⟨3, key, val, dl⟩ = y := ⟨_, rfl⟩
      have hV := Lib.hid (joinL_put ⟨fk, fkey, fval, fd⟩ ⟨3, key, val, dl⟩ rfl hf3)
      have hxl := onL_len [] false ⟨fk, fkey, fval, fd⟩ 1000000 (by simp) hfv (by omega)
      have hc1 := fun w => on_any [] false fk fkey fval fd (by simp) hfk hfd w
      simp only [onV] at hc1
      rw [hx] at hxl
      simp only [hx] at hc1
      have hc2 := fun w => on_any x.1 x.2 3 key val dl hxl (by omega) hd w
      simp only [onV] at hc2
      simp only [hy] at hc2
      have hV' : Hid (updV (joinL ⟨fk, fkey, fval, fd⟩ ⟨3, key, val, dl⟩) = .agg #[.int .u8 1, .string (S key), .string (S y.1), .int .u64 0]) := Lib.hid (by
        rw [hV.out, hx, hy]; rfl)
      have H1 := Lib.hid hc1
      have H2 := Lib.hid hc2
      clear hc1 hc2 hx hy hV hf3 hxl
      obtain ⟨x1, x2⟩ := x
      obtain ⟨y1, y2⟩ := y
      dsimp only at H1 H2 hV'
      go_enter Tryz.func95, Tryz.ntmps95
      go_wp2_with fail
      refine (thread (H1.out _) w.heap.size w (by go_grown) (by go_grown)).mono ?_
      rintro e w1 ⟨rfl, hB1, hk1, hf1, hs1, hz1⟩
      have a0 := (hk1 (w.heap.size + 1) 0 (by simp)).trans (by simp [go_sem]; rfl)
      have a1 := (hk1 (w.heap.size + 1) 1 (by simp)).trans (by simp [go_sem]; rfl)
      have a2 := (hk1 (w.heap.size + 1) 2 (by simp)).trans (by simp [go_sem]; rfl)
      have a3 := (hk1 (w.heap.size + 1) 3 (by simp)).trans (by simp [go_sem]; rfl)
      have b0 := (hk1 (w.heap.size + 1 + 1) 0 (by simp)).trans (by simp [go_sem]; rfl)
      have b1 := (hk1 (w.heap.size + 1 + 1) 1 (by simp)).trans (by simp [go_sem]; rfl)
      have b2 := (hk1 (w.heap.size + 1 + 1) 2 (by simp)).trans (by simp [go_sem]; rfl)
      have b3 := (hk1 (w.heap.size + 1 + 1) 3 (by simp)).trans (by simp [go_sem]; rfl)
      have g0 : ∀ o, w1.frozen? ⟨w.heap.size + 1 + 1, o, none⟩ = false := fun o => (hf1 (w.heap.size + 1 + 1) o (by simp)).trans (by simp [go_sem])
      have hs1' : w.heap.size + 1 + 1 < w1.heap.size := by simp at hs1; omega
      clear hk1 hf1 hs1
      go_wp2_with fail
      refine (thread (H2.out _) w.heap.size w hB1 hz1).mono ?_
      rintro e w2 ⟨rfl, hB2, hk2, hf2, hs2, hz2⟩
      have c1 := (hk2 (w.heap.size + 1) 1 (by omega)).trans a1
      have d0 := (hk2 (w.heap.size + 1 + 1) 0 (by omega)).trans b0
      have d1 := (hk2 (w.heap.size + 1 + 1) 1 (by omega)).trans b1
      have d2 := (hk2 (w.heap.size + 1 + 1) 2 (by omega)).trans b2
      have d3 := (hk2 (w.heap.size + 1 + 1) 3 (by omega)).trans b3
      have g2 := fun o => (hf2 (w.heap.size + 1 + 1) o (by omega)).trans (g0 o)
      clear hk2 hf2 a0 a1 a2 a3 b0 b1 b2 b3 g0
      go_wp2_with fail
      exact bodyPost_ret (v := .agg #[.int .u8 1, .string (S key), .string (S y1), .int .u64 0]) (by simp [results, Tryz.results95, go_sem, d0, d1, d2, d3]) rfl ⟨ret_val hV'.out.symm, by go_grown⟩
  · have e3 : ((kd : Int) != 3) = true := by rw [bne_iff_ne]; omega
    have hV := Lib.hid (joinL_not ⟨fk, fkey, fval, fd⟩ ⟨kd, key, val, dl⟩ h3)
    clear h3
    go_enter Tryz.func95, Tryz.ntmps95
    go_wp2_with fail
    exact bodyPost_ret (v := .agg #[.int .u8 kd, .string (S key), .string (S val), .int .u64 dl]) (by simp [results, Tryz.results95, go_sem]) rfl ⟨ret_val (by rw [hV.out]; rfl), by go_grown⟩

end Go.Proofs.YtafciefjlkdecaaGreat

namespace Go.Proofs.YtafciefjlkdecaaGreat
open Go.RowKit

/-- The one of a key. -/
def getL (l : List Upd) (k : List UInt8) : Option Upd := l.find? fun u => u.key == k
def getV : Option Upd → Value
  | none => .tuple #[updV ⟨0, [], [], 0⟩, .bool false]
  | some u => .tuple #[updV u, .bool true]
theorem getL_none {l : List Upd} {k : List UInt8} (h : hasKey Upd.key l k = false) : getL l k = none := by
  unfold getL
  rw [List.find?_eq_none]
  intro u hu hk
  have : hasKey Upd.key l k = true := hasKey_iff.2 ⟨u, hu, by simpa using hk⟩
  rw [h] at this; exact absurd this (by simp)
theorem getL_some {l : List Upd} (hr : Rising Upd.key l) (i : Nat) (hi : i < l.length) : getL l l[i].key = some l[i] := by
  unfold getL
  rw [List.find?_eq_some_iff_getElem]
  refine ⟨by simp, i, hi, rfl, fun j hj => ?_⟩
  have := bl_ne (hr.lt hj hi)
  simpa using this

set_option maxRecDepth 100000 in
set_option maxHeartbeats 2000000 in
theorem get_none (v : Value) (l : List Upd) (k : List UInt8) (w : World) (hv : BoxU w v l) (hl : l.length ≤ 100000) (hr : Rising Upd.key l) (hno : hasKey Upd.key l k = false) :
    Calls Tryz.prog 54 #[v, .string (S k)] w fun e w' => e = .returned (getV none) ∧ Below w.heap.size w w' := by
  have hfind := fun w hv => findU v l k w hv (by omega) hr
  rw [hno] at hfind
  obtain ⟨s, rfl, hs⟩ := hv
  have HF := Lib.hid hfind
  have HS := Lib.hid hs
  obtain ⟨ao, c, rfl, hs0, hc1, hc2, hn⟩ := hs
  clear hfind hn hs0 hr
  go_enter Tryz.func54, Tryz.ntmps54
  go_wp2_with fail
  refine (thread (HF.out _ ⟨_, rfl, HS.out.kept (by go_grown) (Nat.le_refl _)⟩) w.heap.size w (by go_grown) (by go_grown)).mono ?_
  rintro e w1 ⟨rfl, hB1, hk1, hf1, hs1, hz1⟩
  have hs1' : w.heap.size + 1 < w1.heap.size := by simp at hs1; omega
  have p1 := (hk1 (w.heap.size + 1) 0 (by first | (simp; done) | (simp; omega))).trans (by simp [go_sem]; rfl)
  have p2 := (hk1 (w.heap.size + 1) 1 (by first | (simp; done) | (simp; omega))).trans (by simp [go_sem]; rfl)
  have p3 := (hk1 (w.heap.size + 1) 2 (by first | (simp; done) | (simp; omega))).trans (by simp [go_sem]; rfl)
  have p4 := (hk1 (w.heap.size + 1) 3 (by first | (simp; done) | (simp; omega))).trans (by simp [go_sem]; rfl)
  have p6 : ∀ o, w1.frozen? ⟨w.heap.size + 1, o, none⟩ = false := fun o => (hf1 (w.heap.size + 1) o (by first | (simp; done) | (simp; omega))).trans (by simp [go_sem])
  clear hk1 hf1 hs1
  go_wp2_with fail
  exact bodyPost_ret (v := .tuple #[.agg #[.int .u8 0, .string (S []), .string (S []), .int .u64 0], .bool false]) (by simp [results, Tryz.results54, go_sem, p1, p2, p3, p4]; rfl) rfl ⟨rfl, by go_grown⟩

set_option maxRecDepth 100000 in
set_option maxHeartbeats 2000000 in
theorem get_some (v : Value) (l : List Upd) (i : Nat) (hi : i < l.length) (u : Upd) (hu : l[i] = u) (k : List UInt8) (w : World) (hv : BoxU w v l) (hl : l.length ≤ 100000) (hr : Rising Upd.key l) (hb : below Upd.key l k = i) (hno : hasKey Upd.key l k = true) :
    Calls Tryz.prog 54 #[v, .string (S k)] w fun e w' => e = .returned (getV (some u)) ∧ Below w.heap.size w w' := by
  have hfind := fun w hv => findU v l k w hv (by omega) hr
  rw [hno, hb] at hfind
  obtain ⟨s, rfl, hs⟩ := hv
  have HF := Lib.hid hfind
  have HS := Lib.hid hs
  obtain ⟨ao, c, rfl, hs0, hc1, hc2, hn⟩ := hs
  clear hfind hn hr
  have hcl := SlAt.cells4 hs0 i hi
  obtain ⟨b, off, rfl, hbl, t0, t1, t2, t3⟩ := hcl
  clear hs0
  go_enter Tryz.func54, Tryz.ntmps54
  go_wp2_with fail
  refine (thread (HF.out _ ⟨_, rfl, HS.out.kept (by go_grown) (Nat.le_refl _)⟩) w.heap.size w (by go_grown) (by go_grown)).mono ?_
  rintro e w1 ⟨rfl, hB1, hk1, hf1, hs1, hz1⟩
  have hs1' : w.heap.size + 1 < w1.heap.size := by simp at hs1; omega
  have p0 := (hk1 w.heap.size 0 (by first | (simp; done) | (simp; omega))).trans (by simp [go_sem]; rfl)
  have p1 := (hk1 (w.heap.size + 1) 0 (by first | (simp; done) | (simp; omega))).trans (by simp [go_sem]; rfl)
  have p2 := (hk1 (w.heap.size + 1) 1 (by first | (simp; done) | (simp; omega))).trans (by simp [go_sem]; rfl)
  have p3 := (hk1 (w.heap.size + 1) 2 (by first | (simp; done) | (simp; omega))).trans (by simp [go_sem]; rfl)
  have p4 := (hk1 (w.heap.size + 1) 3 (by first | (simp; done) | (simp; omega))).trans (by simp [go_sem]; rfl)
  have p6 : ∀ o, w1.frozen? ⟨w.heap.size + 1, o, none⟩ = false := fun o => (hf1 (w.heap.size + 1) o (by first | (simp; done) | (simp; omega))).trans (by simp [go_sem])
  have q0 := (cell_below hB1 hbl _).trans t0
  have q1 := (cell_below hB1 hbl _).trans t1
  have q2 := (cell_below hB1 hbl _).trans t2
  have q3 := (cell_below hB1 hbl _).trans t3
  clear hk1 hf1 hs1
  have hi0 : (0 : Int) ≤ (i : Int) := by omega
  have hi1 : (i : Int) < (l.length : Int) := by omega
  clear hb hno t0 t1 t2 t3
  rw [hu] at q0 q1 q2 q3
  clear hu
  go_wp2_with fail
  exact bodyPost_ret (v := .tuple #[.agg #[.int .u8 u.kind, .string (S u.key), .string (S u.val), .int .u64 u.delta], .bool true]) (by simp [results, Tryz.results54, go_sem, p1, p2, p3, p4]) rfl ⟨rfl, by go_grown⟩

theorem get_any (v : Value) (l : List Upd) (k : List UInt8) (w : World) (hv : BoxU w v l) (hl : l.length ≤ 100000) (hr : Rising Upd.key l) :
    Calls Tryz.prog 54 #[v, .string (S k)] w fun e w' => e = .returned (getV (getL l k)) ∧ Below w.heap.size w w' := by
  cases hh : hasKey Upd.key l k with
  | false => rw [getL_none hh]; exact get_none v l k w hv hl hr hh
  | true =>
    obtain ⟨hlt, hkey⟩ := (hr.found k).1 hh
    have e : getL l k = some (l[below Upd.key l k]'hlt) := by
      have := getL_some hr _ hlt
      rwa [hkey] at this
    rw [e]
    exact get_some v l _ hlt _ rfl k w hv hl hr rfl hh

end Go.Proofs.YtafciefjlkdecaaGreat

namespace Go.Proofs.YtafciefjlkdecaaGreat
open Go.RowKit

theorem BoxU.open {w : World} {v : Value} {l : List Upd} (h : BoxU w v l) : ∃ a c, v = .agg #[.slice a l.length c] ∧ BoxU w (.agg #[.slice a l.length c]) l := by
  obtain ⟨s, rfl, a, c, rfl, h1⟩ := h
  exact ⟨a, c, rfl, _, rfl, a, c, rfl, h1⟩
/-- List, its length by name. -/
theorem list_next (a : Option Addr) (n c : Nat) (A : List Upd) (w : World) (hn : n = A.length) (h : BoxU w (.agg #[.slice a n c]) A) (hl : A.length ≤ 1000000) :
    Calls Tryz.prog 75 #[.agg #[.slice a n c]] w fun e w' => (∃ a' c', e = .returned (.slice a' n c') ∧ w'.ownsRow w.heap.size 39 4 (.slice a' n c') n (cellsU A)) ∧ Below w.heap.size w w' := by
  subst hn
  refine (listU _ A w h hl).mono ?_
  rintro e w' ⟨⟨v', rfl, hown⟩, hb⟩
  obtain ⟨a', c', rfl⟩ := own_form hown
  exact ⟨⟨a', c', rfl, hown⟩, hb⟩
theorem upd_guard (op : BinOp) (x y : Operand) (xs ys : Array Value) (w : World) : (eqGuard op 39 x y (.agg xs) (.agg ys)).run Tryz.prog w = .ok () w := run_eqGuard_agg w op _ x y xs ys (by kernel_rfl)
theorem upd_under : Tryz.prog.underlying 39 = some (.struct (Tryz.prog.fieldsOf 39)) := by kernel_rfl
theorem upd_held : Tryz.prog.stoodInHeld 39 = false := by kernel_rfl
theorem upd_neq_same (k d : Int) (a b : ByteArray) (w : World) : (binOp .neq 39 (.agg #[.int .u8 k, .string a, .string b, .int .u64 d]) (.agg #[.int .u8 k, .string a, .string b, .int .u64 d])).run Tryz.prog w = .ok (.bool false) w := by
  rw [run_neq_struct, run_equalIn_agg _ _ _ _ _ upd_under upd_held]
  simp [Program.fieldsOf, Tryz.underlying39, Tryz.underlying37, Tryz.underlying9, Tryz.underlying25, Op.eqFields, go_sem]
/-- Two lists of the same updates, at one place of both. -/
theorem pair_at {w : World} {a a' : Option Addr} {n n' c c' : Nat} {A : List Upd} (h : SlU w (.slice a n c) A) (h' : SlU w (.slice a' n' c') A) (i : Nat) (hi : i < A.length) :
    ∃ b off b' off' u, A[i] = u ∧ a = some ⟨b, off, none⟩ ∧ a' = some ⟨b', off', none⟩ ∧ (w.cell? ⟨b, off + i * 4, none⟩ = some (.int .u8 u.kind) ∧ w.cell? ⟨b, off + i * 4 + 1, none⟩ = some (.string (S u.key)) ∧ w.cell? ⟨b, off + i * 4 + 2, none⟩ = some (.string (S u.val)) ∧ w.cell? ⟨b, off + i * 4 + 3, none⟩ = some (.int .u64 u.delta)) ∧
      (w.cell? ⟨b', off' + i * 4, none⟩ = some (.int .u8 u.kind) ∧ w.cell? ⟨b', off' + i * 4 + 1, none⟩ = some (.string (S u.key)) ∧ w.cell? ⟨b', off' + i * 4 + 2, none⟩ = some (.string (S u.val)) ∧ w.cell? ⟨b', off' + i * 4 + 3, none⟩ = some (.int .u64 u.delta)) := by
  obtain ⟨b, off, rfl, -, h1⟩ := h.cells4 i hi
  obtain ⟨b', off', rfl, -, h2⟩ := h'.cells4 i hi
  exact ⟨b, off, b', off', _, rfl, rfl, rfl, h1, h2⟩

end Go.Proofs.YtafciefjlkdecaaGreat

namespace Go.Proofs.YtafciefjlkdecaaGreat
open Go.RowKit

theorem infoBld : (Tryz.prog.info? 200).map (·.size) = some 2 := by kernel_rfl
theorem infoByte : (Tryz.prog.info? 5).map (fun i => (i.zero, i.size, i.bytes)) = some (some (.int .u8 0), 1, 1) := by kernel_rfl
set_option maxHeartbeats 1000000 in
set_option maxRecDepth 100000 in
theorem bld_used (b : Nat) (w : World) (h0 : w.cell? ⟨b, 0, none⟩ = some (.pointer (some ⟨b, 0, none⟩))) :
    Calls Tryz.prog 135 #[.pointer (some ⟨b, 0, none⟩)] w fun e w' => e = .returned (.tuple #[]) ∧ w' = w := by
  obtain ⟨j, hj, _⟩ := Option.map_eq_some_iff.1 infoBld
  go_enter Tryz.func135, Tryz.ntmps135
  go_wp2_with fail
  rw [Lib.run_neq_ptr_same w _ Tryz.underlying198 hj]
  go_wp2_with fail
  exact bodyPost_end (v := .tuple #[]) (by simp [results, Tryz.results135, go_sem]) rfl ⟨rfl, rfl⟩
set_option maxHeartbeats 1000000 in
set_option maxRecDepth 100000 in
theorem bld_fresh (b : Nat) (w : World) (h0 : w.cell? ⟨b, 0, none⟩ = some (.pointer none)) (hsh : w.shape? b = some (200, 2)) (hfz : w.frozen? ⟨b, 0, none⟩ = false) :
    Calls Tryz.prog 135 #[.pointer (some ⟨b, 0, none⟩)] w fun e w' => e = .returned (.tuple #[]) ∧ w' = w.setCell ⟨b, 0, none⟩ (.pointer (some ⟨b, 0, none⟩)) := by
  obtain ⟨j, hj, hjs⟩ := Option.map_eq_some_iff.1 infoBld
  go_enter Tryz.func135, Tryz.ntmps135
  go_wp2_with fail
  rw [Lib.run_to_unsafe w ⟨b, 0, none⟩ Tryz.underlying198 Tryz.underlying267 hj (by rw [hjs]; decide) hsh (Nat.zero_lt_succ 1)]
  simp only [Result.andThen]
  rw [Oper.upon_value]
  go_wp2_with fail
  rw [run_callFunc_extern Tryz.func165 (by kernel_rfl) (by kernel_rfl) (by kernel_rfl) (e := Extern.AbiNoEscape.same) (by kernel_rfl)]
  rw [Lib.run_noEscape]
  simp only [Result.andThen]
  rw [Oper.upon_value]
  go_wp2_with fail
  rw [Lib.run_from_unsafe w ⟨b, 0, none⟩ Tryz.underlying267 Tryz.underlying198 hj hsh (by kernel_rfl)]
  simp only [Result.andThen]
  rw [Oper.upon_value]
  go_wp2_with fail
  exact bodyPost_end (v := .tuple #[]) (by simp [results, Tryz.results135, go_sem]) rfl ⟨rfl, rfl⟩
abbrev IsB (B b : Nat) (bs : List Value) (w : World) : Prop := Lib.IsBuilder 200 5 B b bs w
abbrev BAt (B b : Nat) (p : Value) (bs : List Value) (w : World) : Prop := Lib.BuilderAt 200 5 B b p bs w
theorem bld_check (B b : Nat) (bs : List Value) (w : World) (h : IsB B b bs w) :
    Calls Tryz.prog 135 #[.pointer (some ⟨b, 0, none⟩)] w fun e w' => e = .returned (.tuple #[]) ∧ BAt B b (.pointer (some ⟨b, 0, none⟩)) bs w' ∧ Below B w w' := by
  rcases h with h | h
  · refine (bld_fresh b w h.cell0 h.shape h.frozen0).mono ?_
    rintro e w' ⟨rfl, rfl⟩
    exact ⟨rfl, h.used _, (Below.refl B w).setCell (p := ⟨b, 0, none⟩) h.1 _⟩
  · refine (bld_used b w h.cell0).mono ?_
    rintro e w' ⟨rfl, rfl⟩
    exact ⟨rfl, h, Below.refl B _⟩
set_option maxHeartbeats 1000000 in
set_option maxRecDepth 100000 in
/-- WriteString: the bytes are laid behind. -/
theorem bld_write (B b : Nat) (bs : List Value) (s : ByteArray) (w : World) (h : IsB B b bs w) (hlen : bs.length + s.size ≤ 140737488355328) (hBw : B ≤ w.heap.size) :
    Calls Tryz.prog 105 #[.pointer (some ⟨b, 0, none⟩), .string s] w fun e w' => e = .returned (.tuple #[.int .i64 s.size, .nilIface]) ∧ IsB B b (bs ++ Lib.strCells s) w' ∧ Below B w w' := by
  obtain ⟨i0, hi, hz0, hz1, hz2⟩ := info_parts infoByte
  go_enter Tryz.func105, Tryz.ntmps105
  go_wp2_with fail
  refine (bld_check B b bs _ h).mono ?_
  rintro e w1 ⟨rfl, h1, hb1⟩
  obtain ⟨hB, v, hbk, hown, hne⟩ := h1
  have c0 : w1.cell? ⟨b, 0, none⟩ = some (.pointer (some ⟨b, 0, none⟩)) := by rw [Lib.cell_of_heap hbk]; rfl
  have c1 : w1.cell? ⟨b, 1, none⟩ = some v := by rw [Lib.cell_of_heap hbk]; rfl
  go_wp2_with (at_builtin; refine Lib.wpList_append_own_string _ rfl _ _ 22 9 rfl B 5 i0 Tryz.underlying22 Tryz.underlying9 hi hz0 hz1 hz2 _ _ _ rfl hown s rfl ?c3 ?c4 ?c5 ?_)
  case c3 => unfold maxLen; omega
  case c4 => omega
  case c5 => have := hb1.size; omega
  intro v' w2 hown' hgrow _
  have hlt : b < w1.heap.size := by
    rcases Nat.lt_or_ge b w1.heap.size with h' | h'
    · exact h'
    · simp [Array.getElem?_eq_none h'] at hbk
  have hb2 : w2.heap[b]? = some (.cells #[.pointer (some ⟨b, 0, none⟩), v] 200 (0, 0)) := by
    rw [hgrow.block b hlt (fun e => hne e.symm)]
    exact hbk
  have d0 : w2.cell? ⟨b, 0, none⟩ = some (.pointer (some ⟨b, 0, none⟩)) := by rw [Lib.cell_of_heap hb2]; rfl
  have d1 : w2.cell? ⟨b, 1, none⟩ = some v := by rw [Lib.cell_of_heap hb2]; rfl
  have f1 : w2.frozen? ⟨b, 1, none⟩ = false := Lib.frozen_of_heap hb2 1
  obtain ⟨ao, n', cap, rfl⟩ : ∃ ao n' cap, v' = .slice ao n' cap := by
    rcases hown'.2 with ⟨hv, _⟩ | ⟨g, cap, cur, hv, _⟩
    · exact ⟨_, _, _, hv⟩
    · exact ⟨_, _, _, hv⟩
  go_wp2_with fail
  go_ret2
  refine ⟨rfl, Or.inr ?_, ?_⟩
  · exact Lib.BuilderAt.put (T := 200) (e := 5) hB hb2 (bs' := bs ++ Lib.strCells s) (by simpa [Lib.strCells_length] using hown') (by decide)
  · exact (hb1.grown hgrow (by have := hb1.size; omega) (fun k hk => (hown.lt k hk).1)).setCell (p := ⟨b, 1, none⟩) hB _
theorem unsafe_none (W : World) (q : Option Addr) : (Builtin.unsafeString_ #[239, 3] 9 #[.pointer q, .int .i64 0]).run Tryz.prog W = .ok (.string .empty) W := Lib.run_unsafeString_none W _ _ _ q
theorem cellsByte : Tryz.prog.cellsOf 5 = 1 := by kernel_rfl
set_option maxHeartbeats 2000000 in
set_option maxRecDepth 100000 in
theorem bld_some (B b g cap : Nat) (cur : Array Value) (p : Value) (l : List UInt8) (w : World) (h0 : l ≠ []) (hbk : w.heap[b]? = some (.cells #[p, .slice (some ⟨g, 0, none⟩) l.length cap] 200 (0, 0))) (hown : w.ownsRow B 5 1 (.slice (some ⟨g, 0, none⟩) l.length cap) l.length (Lib.byteCells l)) (hbg : B ≤ g) (hg : w.heap[g]? = some (.cells cur 5 (0, 0))) (hnc : l.length ≤ cap) (hcm : cap ≤ maxLen) (hcs : cur.size = cap * 1) :
    Calls Tryz.prog 106 #[.pointer (some ⟨b, 0, none⟩)] w fun e w' => e = .returned (.string ⟨l.toArray⟩) ∧ Below B w w' := by
  have hl0 : l.length ≠ 0 := by simpa using h0
  have c1 : w.drew.cell? ⟨b, 1, none⟩ = some (.slice (some ⟨g, 0, none⟩) l.length cap) := by
    have : w.drew.heap[b]? = some (.cells #[p, .slice (some ⟨g, 0, none⟩) l.length cap] 200 (0, 0)) := hbk
    rw [Lib.cell_of_heap this]; rfl
  have hSD : (Builtin.unsafeSliceData_ #[22] 239 #[.slice (some ⟨g, 0, none⟩) l.length cap]).run Tryz.prog w.drew = .ok (.pointer (some ⟨g, 0, none⟩)) w.drew :=
    Lib.run_unsafeSliceData_row _ _ _ _ _ _ (by omega)
  have hUS : (Builtin.unsafeString_ #[239, 3] 9 #[.pointer (some ⟨g, 0, none⟩), .int .i64 l.length]).run Tryz.prog w.drew = .ok (.string ⟨l.toArray⟩) (w.drew.freeze ⟨g, 0, none⟩ l.length) := by
    refine Lib.run_unsafeString_row w.drew 239 3 9 5 Tryz.underlying239 cellsByte g cur.size (by have hg' : w.drew.heap[g]? = some (.cells cur 5 (0, 0)) := hg; simp [World.shape?, hg']) l h0 (by omega) (by unfold maxLen at hcm; omega) ?_
    intro j x hx
    exact hown.cells (g := g) rfl j (.int .u8 x.toNat) (by simp [Lib.byteCells, hx])
  go_enter Tryz.func106, Tryz.ntmps106
  go_wp2_with fail
  go_region
  all_goals (go_wp2_with fail; go_ret; exact ⟨rfl, Lib.below_freeze (Below.drew (Below.refl B w)) (p := ⟨g, 0, none⟩) hbg _⟩)
set_option maxHeartbeats 2000000 in
set_option maxRecDepth 100000 in
theorem bld_nil (B b : Nat) (p : Value) (w : World) (hbk : w.heap[b]? = some (.cells #[p, .slice none 0 0] 200 (0, 0))) :
    Calls Tryz.prog 106 #[.pointer (some ⟨b, 0, none⟩)] w fun e w' => e = .returned (.string ⟨#[]⟩) ∧ Below B w w' := by
  have hUS := unsafe_none
  have c1 : w.drew.cell? ⟨b, 1, none⟩ = some (.slice none 0 0) := by
    have : w.drew.heap[b]? = some (.cells #[p, .slice none 0 0] 200 (0, 0)) := hbk
    rw [Lib.cell_of_heap this]; rfl
  have hSD : (Builtin.unsafeSliceData_ #[22] 239 #[.slice none 0 0]).run Tryz.prog w.drew = .ok (.pointer none) w.drew := rfl
  go_enter Tryz.func106, Tryz.ntmps106
  go_wp2_with fail
  go_region
  all_goals (go_wp2_with fail; go_ret; exact ⟨rfl, Below.drew (Below.refl B w)⟩)
set_option maxHeartbeats 2000000 in
set_option maxRecDepth 100000 in
theorem bld_full (B b g : Nat) (p : Value) (cur : Array Value) (w : World) (hBw : B ≤ w.heap.size) (hbk : w.heap[b]? = some (.cells #[p, .slice (some ⟨g, 0, none⟩) 0 0] 200 (0, 0))) (hg : w.heap[g]? = some (.cells cur 5 (0, 0))) :
    Calls Tryz.prog 106 #[.pointer (some ⟨b, 0, none⟩)] w fun e w' => e = .returned (.string ⟨#[]⟩) ∧ Below B w w' := by
  have hUS := unsafe_none
  have hlt : b < w.heap.size := by
    rcases Nat.lt_or_ge b w.heap.size with h' | h'
    · exact h'
    · simp [Array.getElem?_eq_none h'] at hbk
  have c1 : w.drew.cell? ⟨b, 1, none⟩ = some (.slice (some ⟨g, 0, none⟩) 0 0) := by
    have : w.drew.heap[b]? = some (.cells #[p, .slice (some ⟨g, 0, none⟩) 0 0] 200 (0, 0)) := hbk
    rw [Lib.cell_of_heap this]; rfl
  have hSD : (Builtin.unsafeSliceData_ #[22] 239 #[.slice (some ⟨g, 0, none⟩) 0 0]).run Tryz.prog w.drew = .ok (.pointer (some ⟨w.drew.heap.size, 0, none⟩)) (w.drew.alloc (.view ⟨g, 0, none⟩ 5)) :=
    Lib.run_unsafeSliceData_zero w.drew _ _ 5 Tryz.underlying239 ⟨g, 0, none⟩ 0 (5, cur.size) (by have hg' : w.drew.heap[g]? = some (.cells cur 5 (0, 0)) := hg; simp [World.shape?, hg'])
  have c2 : (w.drew.alloc (.view ⟨g, 0, none⟩ 5)).cell? ⟨b, 1, none⟩ = some (.slice (some ⟨g, 0, none⟩) 0 0) := by
    have : (w.drew.alloc (.view ⟨g, 0, none⟩ 5)).heap[b]? = _ := (Lib.alloc_old w.drew _ b hlt).trans hbk
    rw [Lib.cell_of_heap this]; rfl
  have c3 : (w.alloc (.view ⟨g, 0, none⟩ 5)).drew.cell? ⟨b, 1, none⟩ = some (.slice (some ⟨g, 0, none⟩) 0 0) := c2
  have c0 : w.cell? ⟨b, 1, none⟩ = some (.slice (some ⟨g, 0, none⟩) 0 0) := c1
  go_enter Tryz.func106, Tryz.ntmps106
  go_wp2_with fail
  go_region
  all_goals (go_wp2_with fail; go_ret; exact ⟨rfl, (Below.drew (Below.refl B w)).alloc hBw _⟩)
set_option maxHeartbeats 2000000 in
set_option maxRecDepth 100000 in
theorem bld_room (B b g cap : Nat) (p : Value) (w : World) (hc0 : cap ≠ 0) (hbk : w.heap[b]? = some (.cells #[p, .slice (some ⟨g, 0, none⟩) 0 cap] 200 (0, 0))) :
    Calls Tryz.prog 106 #[.pointer (some ⟨b, 0, none⟩)] w fun e w' => e = .returned (.string ⟨#[]⟩) ∧ Below B w w' := by
  have hUS := unsafe_none
  have c1 : w.drew.cell? ⟨b, 1, none⟩ = some (.slice (some ⟨g, 0, none⟩) 0 cap) := by
    have : w.drew.heap[b]? = some (.cells #[p, .slice (some ⟨g, 0, none⟩) 0 cap] 200 (0, 0)) := hbk
    rw [Lib.cell_of_heap this]; rfl
  have hSD : (Builtin.unsafeSliceData_ #[22] 239 #[.slice (some ⟨g, 0, none⟩) 0 cap]).run Tryz.prog w.drew = .ok (.pointer (some ⟨g, 0, none⟩)) w.drew :=
    Lib.run_unsafeSliceData_row _ _ _ _ _ _ hc0
  clear hc0
  go_enter Tryz.func106, Tryz.ntmps106
  go_wp2_with fail
  go_region
  all_goals (go_wp2_with fail; go_ret; exact ⟨rfl, Below.drew (Below.refl B w)⟩)
/-- String, whatever the builder holds. -/
theorem bld_string (B b : Nat) (l : List UInt8) (w : World) (h : IsB B b (Lib.byteCells l) w) (hBw : B ≤ w.heap.size) :
    Calls Tryz.prog 106 #[.pointer (some ⟨b, 0, none⟩)] w fun e w' => e = .returned (.string ⟨l.toArray⟩) ∧ Below B w w' := by
  obtain ⟨p, hB, v, hbk, hown, hne⟩ : ∃ p, BAt B b p (Lib.byteCells l) w := by
    rcases h with h | h
    · exact ⟨_, h⟩
    · exact ⟨_, h⟩
  rw [Lib.byteCells_length] at hown
  rcases id hown.2 with ⟨rfl, hz⟩ | ⟨g, cap, cur, rfl, hbg, hg, hnc, hcm, hcs, _⟩
  · obtain rfl := List.eq_nil_of_length_eq_zero hz
    exact bld_nil B b p w hbk
  · by_cases h0 : l = []
    · subst h0
      by_cases hc0 : cap = 0
      · subst hc0
        exact bld_full B b g p cur w hBw hbk hg
      · exact bld_room B b g cap p w hc0 hbk
    · exact bld_some B b g cap cur p l w h0 hbk hown hbg hg hnc hcm hcs
/-- A text with its length ahead. -/
def joinT (s : List UInt8) : List UInt8 := [UInt8.ofNat s.length] ++ s
set_option maxHeartbeats 1000000 in
theorem lendJoin_any (s : List UInt8) (hs : s.length ≤ 255) (w : World) :
    Calls Tryz.prog 104 #[.string (S s)] w fun e w' => e = .returned (.tuple #[.string (S (joinT s)), .bool true]) ∧ Below w.heap.size w w' := by
  have hcv := fun w n c => run_str1 (P := Tryz.prog) 22 9 5 Tryz.underlying22 Tryz.underlying5 Tryz.underlying9 w n c
  have h1 : ¬ (255 : Int) < (s.length : Int) := by omega
  have hw8 : IntKind.u8.wrap (s.length : Int) = (s.length : Int) := by rw [IntKind.wrap_u8]; omega
  go_enter Tryz.func104, Tryz.ntmps104
  go_wp2_with fail
  go_ret2
  exact ⟨by simp [joinT], by go_grown⟩
theorem strCells_S (l : List UInt8) : Lib.strCells (S l) = Lib.byteCells l := by simp [Lib.strCells, Lib.byteCells, S]
theorem IsB.on {B b : Nat} {bs : List Value} {w w' : World} (h : IsB B b bs w) (hb : Below w.heap.size w w') : IsB B b bs w' := by
  have key : ∀ p, BAt B b p bs w → BAt B b p bs w' := fun p ⟨hB, v, hbk, hown, hne⟩ => by
    have hlt : b < w.heap.size := by
      rcases Nat.lt_or_ge b w.heap.size with h' | h'
      · exact h'
      · simp [Array.getElem?_eq_none h'] at hbk
    exact ⟨hB, v, (hb.block b hlt).trans hbk, own_below hown hb, hne⟩
  rcases h with h | h
  · exact Or.inl (key _ h)
  · exact Or.inr (key _ h)
theorem joinT_len (s : List UInt8) : (joinT s).length = s.length + 1 := by simp [joinT]
theorem byteCells_app (a b : List UInt8) : Lib.byteCells (a ++ b) = Lib.byteCells a ++ Lib.byteCells b := by simp [Lib.byteCells]

end Go.Proofs.YtafciefjlkdecaaGreat

namespace Go.Proofs.YtafciefjlkdecaaGreat
open Go.RowKit

set_option maxHeartbeats 400000 in
theorem put_any (n : Nat) (hn : n < 18446744073709551616) (k : Nat) (h1 : 1 ≤ k) (h8 : k ≤ 8) (w : World) :
    Calls Tryz.prog 85 #[.int .u64 n, .int .i64 k] w fun e w' => e = .returned (.tuple #[.string (S (le n k)), .bool (decide (n / 256 ^ k = 0))]) ∧ Below w.heap.size w w' := by
  have hcv := fun w n c => run_str1 (P := Tryz.prog) 22 9 5 Tryz.underlying22 Tryz.underlying5 Tryz.underlying9 w n c
  go_enter Tryz.func85, Tryz.ntmps85
  go_wp2
  go_loopw [0, 6, 7] (fun x s i wr => ∃ j : Nat, j ≤ k ∧ x = .int .u64 (n / 256 ^ j : Nat) ∧ s = .string (S (le n j)) ∧ i = .int .i64 j ∧ Below w.heap.size w wr) (fun _ _ i _ => k - (intOf i).toNat)
  case atStart => exact ⟨0, Nat.zero_le _, by simp, rfl, rfl, by go_grown⟩
  case round =>
    obtain ⟨j, hj, rfl, rfl, rfl, hB⟩ := hrel
    have hz := hB.size
    have hd : n / 256 ^ j < 18446744073709551616 := Nat.lt_of_le_of_lt (Nat.div_le_self _ _) hn
    generalize hm : n / 256 ^ j = m at hd ⊢
    have Hm := Lib.hid hm
    clear hm hn
    have hl : (le n j).length = j := le_length n j
    go_wp2
    · go_roundw
      case rel => exact ⟨j + 1, by omega, by rw [div_pow_succ, Hm.out]; simp, by rw [le_succ, Hm.out], by go_num, by go_grown⟩
      case measure => simp [intOf]; omega
    · obtain rfl : j = k := by omega
      go_ret2
      exact ⟨ret_val (by rw [Hm.out, ← beq_zero]; rfl), by go_grown⟩

end Go.Proofs.YtafciefjlkdecaaGreat

namespace Go.Proofs.YtafciefjlkdecaaGreat
open Go.RowKit

theorem check_big (u : Upd) (h : u.key.length < 1 ∨ 16 < u.key.length ∨ 32 < u.val.length) : (13 : Int) = (u.check : Nat) := by rw [Upd.check, if_pos h]; rfl
theorem check_arg (u : Upd) (h : ¬ (u.key.length < 1 ∨ 16 < u.key.length ∨ 32 < u.val.length)) (k : u.kind < 1 ∨ 3 < u.kind ∨ (u.kind ≠ 1 ∧ u.val ≠ []) ∨ (u.kind ≠ 3 ∧ u.delta ≠ 0)) : (2 : Int) = (u.check : Nat) := by
  rw [Upd.check, if_neg h, if_pos k]; rfl
theorem check_fine (u : Upd) (h : ¬ (u.key.length < 1 ∨ 16 < u.key.length ∨ 32 < u.val.length)) (k : ¬ (u.kind < 1 ∨ 3 < u.kind ∨ (u.kind ≠ 1 ∧ u.val ≠ []) ∨ (u.kind ≠ 3 ∧ u.delta ≠ 0))) : (0 : Int) = (u.check : Nat) := by
  rw [Upd.check, if_neg h, if_neg k]; rfl

set_option maxHeartbeats 400000 in
theorem refCheck_any (u : Upd) (hu : u.Wf) (w : World) :
    Calls Tryz.prog 48 #[.agg #[.int .u8 u.kind, .string (S u.key), .string (S u.val), .int .u64 u.delta]] w fun e w' => e = .returned (.int .i64 u.check) ∧ Below w.heap.size w w' := by
  obtain ⟨hk, hd⟩ := hu
  by_cases h : u.key.length < 1 ∨ 16 < u.key.length ∨ 32 < u.val.length
  · have H := Lib.hid h
    clear h
    go_enter Tryz.func48, Tryz.ntmps48
    go_wp2
    all_goals first
      | (go_ret; exact ⟨ret_int (check_big u H.out), by go_grown⟩)
      | (exfalso; have := H.out; omega)
  · obtain ⟨h1, h2, h3⟩ : 1 ≤ u.key.length ∧ u.key.length ≤ 16 ∧ u.val.length ≤ 32 := by omega
    have H := Lib.hid h
    clear h
    go_enter Tryz.func48, Tryz.ntmps48
    go_wp2
    all_goals (go_ret; refine ⟨ret_int ?_, by go_grown⟩; go_light; (try simp only [bne_iff_ne, bne_eq_false_iff_eq, ne_eq] at *); by_cases hv : u.val = [])
    all_goals first
      | contradiction
      | exact check_fine u H.out (by simp [hv]; omega)
      | exact check_arg u H.out (by simp [hv]; omega)

theorem refCheck (kd : Nat) (key val : List UInt8) (dl : Nat) (hk : kd < 256) (hd : dl < 18446744073709551616) (w : World) :
    Calls Tryz.prog 48 #[.agg #[.int .u8 kd, .string (S key), .string (S val), .int .u64 dl]] w fun e w' => e = .returned (.int .i64 (Upd.mk kd key val dl).check) ∧ Below w.heap.size w w' :=
  refCheck_any ⟨kd, key, val, dl⟩ ⟨hk, hd⟩ w

end Go.Proofs.YtafciefjlkdecaaGreat

namespace Go.Proofs.YtafciefjlkdecaaGreat
open Go.RowKit

set_option maxRecDepth 100000 in
set_option maxHeartbeats 2000000 in
theorem chk_big (u : Upd) (h : u.key.length < 1 ∨ 16 < u.key.length ∨ 32 < u.val.length) (w : World) :
    Calls Tryz.prog 38 #[.agg #[.int .u8 u.kind, .string (S u.key), .string (S u.val), .int .u64 u.delta]] w fun e w' => e = .returned (.int .i64 u.check) ∧ Below w.heap.size w w' := by
  have H := Lib.hid (check_big u h)
  by_cases h0 : u.key = []
  · have he : u.key.isEmpty = true := by rw [h0]; rfl
    clear h
    go_enter Tryz.func38, Tryz.ntmps38
    go_wp2
    all_goals (go_ret; exact ⟨ret_int H.out, by go_grown⟩)
  · have he : u.key.isEmpty = false := by cases hk : u.key <;> simp [hk] at h0 ⊢
    by_cases h1 : 16 < u.key.length
    · clear h
      go_enter Tryz.func38, Tryz.ntmps38
      go_wp2
      all_goals (go_ret; exact ⟨ret_int H.out, by go_grown⟩)
    · have h2 : 32 < u.val.length := by
        rcases h with h | h | h
        · exact absurd (List.eq_nil_of_length_eq_zero (by omega)) h0
        · exact absurd h h1
        · exact h
      clear h
      go_enter Tryz.func38, Tryz.ntmps38
      go_wp2
      all_goals (go_ret; exact ⟨ret_int H.out, by go_grown⟩)

set_option maxRecDepth 100000 in
set_option maxHeartbeats 2000000 in
theorem chk_fits (u : Upd) (h : ¬ (u.key.length < 1 ∨ 16 < u.key.length ∨ 32 < u.val.length)) (hu : u.Wf) (w : World) :
    Calls Tryz.prog 38 #[.agg #[.int .u8 u.kind, .string (S u.key), .string (S u.val), .int .u64 u.delta]] w fun e w' => e = .returned (.int .i64 u.check) ∧ Below w.heap.size w w' := by
  obtain ⟨hk, hd⟩ := hu
  obtain ⟨h1, h2, h3⟩ : 1 ≤ u.key.length ∧ u.key.length ≤ 16 ∧ u.val.length ≤ 32 := by omega
  have he : u.key.isEmpty = false := by cases hk : u.key <;> simp [hk] at h1 ⊢
  have H := Lib.hid h
  clear h
  go_enter Tryz.func38, Tryz.ntmps38
  go_wp2
  all_goals (go_ret; refine ⟨ret_int ?_, by go_grown⟩; go_light; (try simp only [bne_iff_ne, bne_eq_false_iff_eq, ne_eq] at *); by_cases hv : u.val = [])
  all_goals first
    | contradiction
    | exact check_fine u H.out (by simp [hv]; omega)
    | exact check_arg u H.out (by simp [hv]; omega)

theorem chk (kd : Nat) (key val : List UInt8) (dl : Nat) (hk : kd < 256) (hd : dl < 18446744073709551616) (w : World) :
    Calls Tryz.prog 38 #[.agg #[.int .u8 kd, .string (S key), .string (S val), .int .u64 dl]] w fun e w' => e = .returned (.int .i64 (Upd.mk kd key val dl).check) ∧ Below w.heap.size w w' := by
  by_cases h : key.length < 1 ∨ 16 < key.length ∨ 32 < val.length
  · exact chk_big ⟨kd, key, val, dl⟩ h w
  · exact chk_fits ⟨kd, key, val, dl⟩ h ⟨hk, hd⟩ w

end Go.Proofs.YtafciefjlkdecaaGreat

namespace Go.Proofs.YtafciefjlkdecaaGreat
open Go.RowKit

theorem sizeU : (Tryz.prog.info? 39).map (·.size) = some 4 := by kernel_rfl

/-- What is in the row behind it. -/
def insU (l : List Upd) (i : Nat) (x : Upd) : List Upd := l.take i ++ x :: l.drop i

set_option maxRecDepth 100000 in
set_option maxHeartbeats 2000000 in
theorem insEndU (B : Nat) (v : Value) (l : List Upd) (x : Upd) (vb : Nat) (w : World) (hown : w.ownsRow B 39 4 v l.length (cellsU l)) (hB : B ≤ w.heap.size) (hl : l.length ≤ 1000000)
    (hx : RowIs w 39 vb (Upd.cells x)) :
    Calls Tryz.prog 96 #[v, .int .i64 l.length, .slice (some ⟨vb, 0, none⟩) 1 1] w fun e w' => (∃ v', e = .returned v' ∧ w'.ownsRow B 39 4 v' (l.length + 1) (cellsU (l ++ [x])) ∧ w.grownBy w' v.ownBlock ∧ (v'.ownBlock = v.ownBlock ∨ v'.ownBlock = some w.heap.size)) := by
  obtain ⟨i0, hi, hz0, hz1, hz2⟩ := info_parts infoU
  obtain ⟨ao, c, rfl, hlc⟩ : ∃ ao c, v = .slice ao l.length c ∧ l.length ≤ c := by
    rcases ownsRow_open hown with ⟨rfl, h0, -⟩ | ⟨g, cap, cur, rfl, -, -, h3, -⟩
    · exact ⟨none, 0, by rw [h0], by omega⟩
    · exact ⟨_, _, rfl, h3⟩
  obtain ⟨X, hX⟩ : ∃ X, ∀ w, (Instr.slice 101 (.slice ao l.length c) (some (.int .i64 (l.length : Int))) none none).run Tryz.prog w = .ok X w :=
    ⟨_, fun w => by rw [run_slice_l w 101 ao l.length c (by exact Tryz.underlying101) .i64 l.length (by omega) (by omega)]; rfl⟩
  have hl0 : ((1 : Int) == 0) = false := rfl
  go_enter Tryz.func96, Tryz.ntmps96
  go_wp2_with (at_builtin; refine wpList_append_own_at _ rfl _ _ 101 rfl B 39 i0 (.agg #[.int .u8 0, .string ByteArray.empty, .string ByteArray.empty, .int .u64 0]) 4 48 Tryz.underlying101 hi hz0 hz1 hz2 rfl (by decide) _ l.length _ rfl hown ⟨vb, 0, none⟩ 1 1 (Upd.cells x) rfl rfl (hx.cells 0 _ fun j v hv => by rw [Nat.zero_add]; exact hv) (by rw [← cellsU_one]; exact cellsU_oneCell _) (by unfold maxLen; omega) (by omega) hB ?_; intro v' w1 hown' hgrow hnil' hat)
  go_ret
  exact ⟨_, rfl, by rw [cellsU_append, cellsU_one]; exact hown', hgrow, hat⟩

theorem insRowU {cur zs : List Value} {i G k : Nat} (h : i * k ≤ cur.length) (hz : zs.length = (G - i) * k) (hi : i ≤ G) : (cur.take (i * k) ++ zs).length = G * k := by
  rw [List.length_append, List.length_take, hz, Nat.sub_mul]
  have := Nat.mul_le_mul_right k hi
  omega

set_option maxRecDepth 100000 in
set_option maxHeartbeats 2000000 in
theorem insGrowU (B g cap : Nat) (cur : List Value) (l : List Upd) (i : Nat) (x : Upd) (vb : Nat) (w : World) (hrow : RowIs w 39 g cur) (hcur : cur = cellsU l) (hil : i < l.length) (hcl : cap = l.length) (hB : B ≤ w.heap.size) (hl : l.length ≤ 1000000)
    (hx : RowIs w 39 vb (Upd.cells x)) :
    Calls Tryz.prog 96 #[.slice (some ⟨g, 0, none⟩) l.length cap, .int .i64 i, .slice (some ⟨vb, 0, none⟩) 1 1] w fun e w' => (∃ v', e = .returned v' ∧ w'.ownsRow B 39 4 v' (l.length + 1) (cellsU (insU l i x)) ∧ w.grownBy w' none ∧ v'.ownBlock = some w.heap.size) := by
  obtain ⟨i0, hi, hz0, hz1, hz2⟩ := info_parts infoU
  have hcurl : cur.length = l.length * 4 := by rw [hcur, cellsU_len]
  have hg := hrow.lt
  have hv := hx.lt
  have hne : ((i : Int) == (l.length : Int)) = false := by rw [beq_eq_false_iff_ne]; omega
  have hi1 : (i : Int) < (l.length : Int) := by omega
  have hi0 : (0 : Int) ≤ (i : Int) := by omega
  have hci : ¬ cap = i := by omega
  have hc1 : (cap : Int) < (l.length : Int) + 1 := by omega
  have hc2 : (l.length : Int) ≤ (cap : Int) := by omega
  have hk : (l.length : Int) + 1 - (i : Int) = ((l.length + 1 - i : Nat) : Int) := by omega
  have hkk := Lib.hid hk
  have hxl : (Upd.cells x).length = 4 := rfl
  have hcur' := Lib.hid hcur
  have hcl' := Lib.hid hcl
  clear hk hcur hcl
  go_enter Tryz.func96, Tryz.ntmps96
  go_wp2_with (first | (at_builtin; refine wpList_append_zeros _ rfl _ _ 101 3 rfl 39 i0 (.agg #[.int .u8 0, .string ByteArray.empty, .string ByteArray.empty, .int .u64 0]) 4 48 Tryz.underlying101 Tryz.underlying3 hi hz0 hz1 hz2 rfl (by decide) (by decide) g i cap cur hrow rfl (l.length + 1 - i) (by rw [← hkk.out]; rfl) (by omega) (by omega) (by rw [hcl'.out]; omega) (l.length + 1) (by omega) (by omega) ?_; intro w1 G zs hr1 hzs hG hGm hg1; have tokG : True := trivial; unfold maxLen at hGm; have hGi : ¬ G = i := (by omega); have hGi1 : ¬ G = i + 1 := (by omega); have hx1 := hx.kept hg1 (by simp); have hrow1 := hrow.kept hg1 (by simp); have hzl := Lib.hid hzs; clear hzs; have hrl' := Lib.hid (insRowU (cur := cur) (k := 4) (by rw [hcurl]; exact Nat.mul_le_mul_right _ (Nat.le_of_lt hil)) hzl.out (by omega))) | (with_reducible show wpList _ _ _ (Oper.mk (some 45) _ _ _ _ _ :: _) _ _; go_must (refine wpList_copyK _ rfl (.tmp 43) (.tmp 44) 101 101 rfl 39 4 Tryz.underlying101 sizeU w.heap.size (i * 4) (l.length + 1 - i) (G - i) ⟨vb, 0, none⟩ 1 1 rfl rfl _ (Upd.cells x) 1 hr1 (by simp only [Nat.min_def]; split <;> omega) rfl (hx1.cells 0 _ fun j v hv => by rw [Nat.zero_add]; exact hv) ?hfit (by rw [← cellsU_one]; exact cellsU_oneCell _) ?_; (case hfit => (rw [hrl'.out, hxl]; omega)); intro w2 hr2 hg2; have hrow2 := hrow1.kept hg2 (by simp; omega))))
  have hol := Lib.hid ((over_len (cur := cur.take (i * 4) ++ zs) (cs := Upd.cells x) (o := i * 4) (by rw [hrl'.out, hxl]; omega)).trans hrl'.out)
  have hw1 : IntKind.i64.wrap ((i : Int) + 1) = (i : Int) + 1 := IntWalk.i64_in _ (by omega)
  have hb1 : (0 : Int) ≤ (i : Int) + 1 := by omega
  have hin : i ≤ l.length := by omega
  have hb3 : (i : Int) ≤ (l.length : Int) := by omega
  have htn : ((i : Int) + 1).toNat = i + 1 := by omega
  have hdl : (cur.drop (i * 4)).length = (l.length - i) * 4 := by rw [List.length_drop, hcurl, Nat.sub_mul]
  have hdl' := Lib.hid hdl
  clear hdl hzl hrl'
  go_region_law (refine step_copyK rfl _ _ 101 101 rfl 39 4 Tryz.underlying101 sizeU w.heap.size ((i + 1) * 4) (l.length + 1 - (i + 1)) (G - (i + 1)) ⟨g, i * 4, none⟩ (l.length - i) (cap - i) (by simp [Act.eval, Act.put]) (by simp [Act.eval, Act.put]) _ (cur.drop (i * 4)) (l.length - i) hr2.drew (by simp only [Nat.min_def]; split <;> omega) hdl'.out (hrow2.drew.cells _ _ fun j v hv => by rwa [List.getElem?_drop] at hv) ?hfit2 (by rw [hcur'.out]; exact fun v hv => cellsU_oneCell _ v (List.mem_of_mem_drop hv)) ?_; (case hfit2 => (rw [hdl'.out, hol.out]; omega)); intro w3 hr3 hg3)
  go_wp2_with fail
  go_ret
  have hfit3 : (i + 1) * 4 + (cur.drop (i * 4)).length ≤ (over (cur.take (i * 4) ++ zs) (i * 4) (Upd.cells x)).length := by rw [hdl'.out, hol.out]; omega
  refine ⟨_, rfl, ownsRow_shut hB hr3 hG (by unfold maxLen; omega) ((over_len hfit3).trans hol.out) ?_, grown_new (grown_drew (grown_new hg1 hg2 (Nat.le_refl _))) hg3 (Nat.le_refl _), rfl⟩
  rw [over_two (cur.take (i * 4)) zs (Upd.cells x) (cur.drop (i * 4)) (i * 4) ((i + 1) * 4) (by rw [List.length_take, hcurl]; omega) (by rw [hxl]; omega) ((l.length + 1) * 4) (by rw [hdl'.out]; omega)]
  rw [hcur'.out, cellsU_take, cellsU_drop, insU, cellsU_append, ← List.singleton_append, cellsU_append, cellsU_one]

set_option maxRecDepth 100000 in
set_option maxHeartbeats 2000000 in
theorem insShiftU (B g cap : Nat) (cur : List Value) (l : List Upd) (i : Nat) (x : Upd) (vb : Nat) (w : World) (hrow : RowIs w 39 g cur) (hcur : cur.take (l.length * 4) = cellsU l) (hcurl : cur.length = cap * 4) (hil : i < l.length) (hcl : l.length + 1 ≤ cap) (hcm : cap ≤ 9223372036854775807) (hB : B ≤ g) (hl : l.length ≤ 1000000)
    (hx : RowIs w 39 vb (Upd.cells x)) (hvg : vb ≠ g) :
    Calls Tryz.prog 96 #[.slice (some ⟨g, 0, none⟩) l.length cap, .int .i64 i, .slice (some ⟨vb, 0, none⟩) 1 1] w fun e w' => (∃ v', e = .returned v' ∧ w'.ownsRow B 39 4 v' (l.length + 1) (cellsU (insU l i x)) ∧ w.grownBy w' (some g) ∧ v'.ownBlock = some g) := by
  have hg := hrow.lt
  have hv := hx.lt
  have hne : ((i : Int) == (l.length : Int)) = false := by rw [beq_eq_false_iff_ne]; omega
  have hi1 : (i : Int) < (l.length : Int) := by omega
  have hi0 : (0 : Int) ≤ (i : Int) := by omega
  have hci : ¬ cap = i := by omega
  have hci1 : ¬ cap = i + 1 := by omega
  have hc1 : ¬ (cap : Int) < (l.length : Int) + 1 := by omega
  have hc2 : (l.length : Int) + 1 ≤ (cap : Int) := by omega
  have hov : ∀ lb cb, (callFunc 130 #[.slice (some ⟨vb, 0, none⟩) 1 1, .slice (some ⟨g, (i + 1) * 4, none⟩) lb cb]).run Tryz.prog w = .ok (.value (.bool false)) w := fun lb cb => by
    rw [run_callFunc_extern Tryz.func130 (by kernel_rfl) (by kernel_rfl) (by kernel_rfl) (e := Extern.SlicesOverlaps.overlaps #[101, 101] #[4]) (by kernel_rfl),
      Lib.run_overlaps_apart w 101 4 39 Tryz.underlying101 4 Tryz.sizeOf39 ⟨vb, 0, none⟩ ⟨g, (i + 1) * 4, none⟩ 1 1 lb cb hvg 39 39 _ _ hx.shape hrow.shape (by omega) (hx.frozen 0) (hx.frozen _)]
    rfl
  have hxl : (Upd.cells x).length = 4 := rfl
  have hw1 : IntKind.i64.wrap ((i : Int) + 1) = (i : Int) + 1 := IntWalk.i64_in _ (by omega)
  have hb1 : (0 : Int) ≤ (i : Int) + 1 := by omega
  have hin : i ≤ l.length := by omega
  have hb3 : (i : Int) ≤ (l.length : Int) := by omega
  have hb4 : (i : Int) ≤ (l.length : Int) + 1 := by omega
  have htn : ((i : Int) + 1).toNat = i + 1 := by omega
  obtain ⟨R, hcurE⟩ : ∃ R, cur = cellsU (l.take i) ++ (cellsU (l.drop i) ++ R) := ⟨cur.drop (l.length * 4), by
    rw [← List.append_assoc, ← cellsU_append, List.take_append_drop, ← hcur, List.take_append_drop]⟩
  have hPl : (cellsU (l.take i)).length = i * 4 := by rw [cellsU_len, List.length_take]; omega
  have hQl : (cellsU (l.drop i)).length = (l.length - i) * 4 := by rw [cellsU_len, List.length_drop]
  have hRl : R.length = (cap - l.length) * 4 := by rw [hcurE, List.length_append, List.length_append, hPl, hQl] at hcurl; omega
  have hQ1 := cellsU_oneCell (l.drop i)
  have hins : cellsU (insU l i x) = cellsU (l.take i) ++ (Upd.cells x ++ cellsU (l.drop i)) := by
    rw [insU, cellsU_append, ← List.singleton_append, cellsU_append, cellsU_one]
  have hins' := Lib.hid hins
  have hcurl' := Lib.hid hcurl
  clear hcur hins hcurl
  generalize cellsU (l.take i) = C at *
  generalize cellsU (l.drop i) = D at *
  have hCl := Lib.hid hPl
  have hDl := Lib.hid hQl
  have hRl' := Lib.hid hRl
  have hcurE' := Lib.hid hcurE
  clear hPl hQl hRl hcurE
  go_enter Tryz.func96, Tryz.ntmps96
  go_wp2_with (simp only [hov])
  go_region_law (refine step_copyK rfl _ _ 101 101 rfl 39 4 Tryz.underlying101 sizeU g ((i + 1) * 4) (l.length + 1 - (i + 1)) (cap - (i + 1)) ⟨g, i * 4, none⟩ (l.length + 1 - i) (cap - i) (by simp [Act.eval, Act.put]) (by simp [Act.eval, Act.put]) _ D (l.length - i) hrow.drew (by simp only [Nat.min_def]; split <;> omega) hDl.out (hrow.drew.cells _ _ fun j v hv => by rw [hcurE'.out, ← hCl.out, List.getElem?_append_right (by omega), Nat.add_sub_cancel_left, List.getElem?_append_left (List.getElem?_eq_some_iff.1 hv).1]; exact hv) (by rw [hDl.out, hcurl'.out]; omega) hQ1 ?_; intro w3 hr3 hg3)
  have hx3 := hx.drew.kept hg3 (by simpa using hvg)
  have hol := Lib.hid ((over_len (cur := cur) (cs := D) (o := (i + 1) * 4) (by rw [hDl.out, hcurl'.out]; omega)).trans hcurl'.out)
  go_wp2_with (with_reducible show wpList _ _ _ (Oper.mk (some 82) _ _ _ _ _ :: _) _ _; refine wpList_copyK _ rfl (.tmp 80) (.tmp 81) 101 101 rfl 39 4 Tryz.underlying101 sizeU g (i * 4) (l.length + 1 - i) (cap - i) ⟨vb, 0, none⟩ 1 1 rfl rfl _ (Upd.cells x) 1 hr3 (by simp only [Nat.min_def]; split <;> omega) rfl (hx3.cells 0 _ fun j v hv => by rw [Nat.zero_add]; exact hv) ?hfit (by rw [← cellsU_one]; exact cellsU_oneCell _) ?_; (case hfit => (rw [hol.out, hxl]; omega)); intro w4 hr4 hg4)
  go_ret
  refine ⟨_, rfl, ownsRow_shut hB hr4 hcl (by unfold maxLen; omega) ((over_len (by rw [hol.out, hxl]; omega)).trans hol.out) ?_, grown_trans' (grown_undrew hg3) hg4, rfl⟩
  rw [hcurE'.out, hins'.out]
  exact over_gap C D R (Upd.cells x) (i * 4) ((i + 1) * 4) hCl.out (by rw [hxl]; omega) ((l.length + 1) * 4) (by rw [hDl.out]; omega) (by rw [hxl, hRl'.out]; omega)

theorem insertU (B : Nat) (v : Value) (l : List Upd) (i : Nat) (x : Upd) (vb : Nat) (w : World) (hown : w.ownsRow B 39 4 v l.length (cellsU l)) (hB : B ≤ w.heap.size) (hi : i ≤ l.length) (hl : l.length ≤ 1000000)
    (hx : RowIs w 39 vb (Upd.cells x)) (hvb : v.ownBlock ≠ some vb) :
    Calls Tryz.prog 96 #[v, .int .i64 i, .slice (some ⟨vb, 0, none⟩) 1 1] w fun e w' => (∃ v', e = .returned v' ∧ w'.ownsRow B 39 4 v' (l.length + 1) (cellsU (insU l i x)) ∧ w.grownBy w' v.ownBlock ∧ (v'.ownBlock = v.ownBlock ∨ v'.ownBlock = some w.heap.size)) := by
  by_cases he : i = l.length
  · subst he
    have := insEndU B v l x vb w hown hB hl hx
    rw [insU, List.take_length, List.drop_length]
    exact this
  · rcases ownsRow_open hown with ⟨rfl, h0, -⟩ | ⟨g, cap, cur, rfl, hBg, hr, hn, hm, hc, ht⟩
    · omega
    · have hvg : vb ≠ g := fun e => hvb (by simp [Value.ownBlock, e])
      by_cases hroom : l.length + 1 ≤ cap
      · refine (insShiftU B g cap cur l i x vb w hr ht hc (by omega) hroom (by unfold maxLen at hm; omega) hBg hl hx hvg).mono ?_
        rintro e w' ⟨v', h1, h2, h3, h4⟩
        exact ⟨v', h1, h2, h3, Or.inl h4⟩
      · have hcl : cap = l.length := by omega
        subst hcl
        refine (insGrowU B g l.length cur l i x vb w hr (by rw [← ht, List.take_of_length_le (by omega)]) (by omega) rfl hB hl hx).mono ?_
        rintro e w' ⟨v', h1, h2, h3, h4⟩
        exact ⟨v', h1, h2, ⟨h3.os, h3.tape, h3.output, h3.size, fun k hk _ => h3.block k hk (by simp)⟩, Or.inr h4⟩

end Go.Proofs.YtafciefjlkdecaaGreat

namespace Go.Proofs.YtafciefjlkdecaaGreat
open Go.RowKit

/-- One more, behind that of its key. -/
def withL (l : List Upd) (u : Upd) : List Upd :=
  if h : below Upd.key l u.key < l.length ∧ hasKey Upd.key l u.key = true then l.set (below Upd.key l u.key) (joinL (l[below Upd.key l u.key]'h.1) u) else insU l (below Upd.key l u.key) u
/-- Updates that variables may hold, with values that aren't too long. -/
def Fine (l : List Upd) : Prop := ∀ u ∈ l, u.Wf ∧ u.val.length ≤ 1000000

theorem cellsU_set : ∀ (l : List Upd) (i : Nat) (x : Upd), i < l.length → ((((cellsU l).set (i * 4) (.int .u8 x.kind)).set (i * 4 + 1) (.string (S x.key))).set (i * 4 + 2) (.string (S x.val))).set (i * 4 + 3) (.int .u64 x.delta) = cellsU (l.set i x)
  | [], i, x, h => by simp at h
  | u :: l, 0, x, _ => by simp [cellsU, Upd.cells]
  | u :: l, i + 1, x, h => by
    have ih := cellsU_set l i x (by simpa using h)
    have e : ∀ (y : Upd) (m : List Upd), cellsU (y :: m) = .int .u8 y.kind :: .string (S y.key) :: .string (S y.val) :: .int .u64 y.delta :: cellsU m := fun y m => by simp [cellsU, Upd.cells]
    rw [List.set_cons_succ, e, e, ← ih, show (i + 1) * 4 = i * 4 + 1 + 1 + 1 + 1 by omega]
    simp only [List.set_cons_succ]
/-- A buffer of a call's own row. -/
def OwnB (B : Nat) (w : World) (v : Value) (l : List Upd) : Prop := ∃ a c, v = .agg #[.slice a l.length c] ∧ w.ownsRow B 39 4 (.slice a l.length c) l.length (cellsU l)
theorem OwnB.mk {B : Nat} {w : World} {a : Option Addr} {n c : Nat} {l : List Upd} (h : w.ownsRow B 39 4 (.slice a n c) n (cellsU l)) : OwnB B w (.agg #[.slice a n c]) l := by
  have hn := (SlU.of_own h).1
  subst hn
  exact ⟨a, c, rfl, h⟩
theorem OwnB.box {B : Nat} {w : World} {v : Value} {l : List Upd} (h : OwnB B w v l) : BoxU w v l := by
  obtain ⟨a, c, rfl, h⟩ := h
  exact BoxU.of_own h
set_option maxRecDepth 100000 in
set_option maxHeartbeats 4000000 in
theorem with_new (v : Value) (l : List Upd) (kd : Nat) (key val : List UInt8) (dl : Nat) (w : World) (hv : BoxU w v l) (hl : l.length ≤ 100000) (hr : Rising Upd.key l) (hno : hasKey Upd.key l key = false) :
    Calls Tryz.prog 67 #[v, .agg #[.int .u8 kd, .string (S key), .string (S val), .int .u64 dl]] w fun e w' => (∃ v', e = .returned v' ∧ OwnB w.heap.size w' v' (insU l (below Upd.key l key) ⟨kd, key, val, dl⟩)) ∧ Below w.heap.size w w' := by
  have hfind := fun w hv => findU v l key w hv (by omega) hr
  rw [hno] at hfind
  have hbl := below_le (key := Upd.key) l key
  obtain ⟨s, rfl, hs⟩ := hv
  have hcl := fun w hs => cloneU s l w hs (by omega)
  have HF := Lib.hid hfind
  have HC := Lib.hid hcl
  have HS := Lib.hid hs
  obtain ⟨ao, c, rfl, hs0, hc1, hc2, hn⟩ := hs
  clear hfind hcl hn hs0 hr
  go_enter Tryz.func67, Tryz.ntmps67
  go_wp2_with fail
  refine (thread (HF.out _ ⟨_, rfl, HS.out.kept (by go_grown) (Nat.le_refl _)⟩) w.heap.size w (by go_grown) (by go_grown)).mono ?_
  rintro e w1 ⟨rfl, hB1, hk1, hf1, hs1, hz1⟩
  have hs1' : w.heap.size + 1 + 1 < w1.heap.size := by simp at hs1; omega
  have p0 := (hk1 w.heap.size 0 (by first | (simp; done) | (simp; omega))).trans (by simp [go_sem]; rfl)
  have p1 := (hk1 (w.heap.size + 1) 0 (by first | (simp; done) | (simp; omega))).trans (by simp [go_sem]; rfl)
  have p2 := (hk1 (w.heap.size + 1) 1 (by first | (simp; done) | (simp; omega))).trans (by simp [go_sem]; rfl)
  have p3 := (hk1 (w.heap.size + 1) 2 (by first | (simp; done) | (simp; omega))).trans (by simp [go_sem]; rfl)
  have p4 := (hk1 (w.heap.size + 1) 3 (by first | (simp; done) | (simp; omega))).trans (by simp [go_sem]; rfl)
  have p5 := (hk1 (w.heap.size + 1 + 1) 0 (by first | (simp; done) | (simp; omega))).trans (by simp [go_sem]; rfl)
  have p6 : w1.frozen? ⟨w.heap.size + 1 + 1, 0, none⟩ = false := (hf1 (w.heap.size + 1 + 1) 0 (by first | (simp; done) | (simp; omega))).trans (by simp [go_sem])
  clear hk1 hf1 hs1
  go_wp2_with fail
  refine (thread (HC.out _ (HS.out.kept hB1 (Nat.le_refl _))) w.heap.size w hB1 hz1).mono ?_
  rintro e w2 ⟨⟨v', rfl, hown⟩, hB2, hk2, hf2, hs2, hz2⟩
  have q1 := (hk2 (w.heap.size + 1) 0 (by omega)).trans p1
  have q2 := (hk2 (w.heap.size + 1) 1 (by omega)).trans p2
  have q3 := (hk2 (w.heap.size + 1) 2 (by omega)).trans p3
  have q4 := (hk2 (w.heap.size + 1) 3 (by omega)).trans p4
  have q5 := (hk2 (w.heap.size + 1 + 1) 0 (by omega)).trans p5
  have q6 := (hf2 (w.heap.size + 1 + 1) 0 (by omega)).trans p6
  clear hk2 hf2 p0 p1 p2 p3 p4 p5 p6
  obtain ⟨ao', c', e'⟩ := own_form hown
  subst e'
  have hne : (Value.slice ao' l.length c').ownBlock ≠ some w2.heap.size := fun e => by have := (hown.lt _ e).2; omega
  have hnr : (Value.slice ao' l.length c').ownBlock ≠ some (w.heap.size + 1 + 1) := fun e => by have := (hown.lt _ e).1; omega
  have hins := insertU w1.heap.size (.slice ao' l.length c') l (below Upd.key l key) ⟨kd, key, val, dl⟩ w2.heap.size (w2.alloc (.cells #[.int .u8 kd, .string (S key), .string (S val), .int .u64 dl] 39)) (hown.alloc _) (by simp; omega) hbl (by omega) (RowIs.new w2 39 (Upd.cells ⟨kd, key, val, dl⟩)) hne
  have HI := Lib.hid hins
  clear hins hbl
  go_wp2_with fail
  refine (HI.out).mono ?_
  rintro e w3 ⟨v3, rfl, hown3, hg3, hat3⟩
  have s5 := hg3.cell (cell_past _ q5) (by simpa using fun e => hnr e.symm)
  have s6 : w3.frozen? ⟨w.heap.size + 1 + 1, 0, none⟩ = false := (World.frozen?_of_block (hg3.block (w.heap.size + 1 + 1) (by simp; omega) (fun e => hnr e.symm))).trans (by rw [World.frozen?_alloc_old _ _ _ (by show w.heap.size + 1 + 1 ≠ _; omega)]; exact q6)
  have hB3 := below_grown (hB2.alloc hz2 (.cells #[.int .u8 kd, .string (S key), .string (S val), .int .u64 dl] 39)) hg3 (fun k e => by have := (hown.lt k e).1; omega) (by simp; omega)
  obtain ⟨a3, c3, e3⟩ := own_form hown3
  subst e3
  have hne3 : (Value.slice a3 (l.length + 1) c3).ownBlock ≠ some (w.heap.size + 1 + 1) := fun e => by have := (hown3.lt _ e).1; omega
  have hbox := fun u => OwnB.mk (own_base (B' := w.heap.size) (ownsRow_setCell_other (a := ⟨w.heap.size + 1 + 1, 0, none⟩) hown3 hne3 u) (by omega))
  have hbox' := Lib.hid hbox
  clear q1 q2 q3 q4 q5 q6 hg3 hat3 hown3 hown hne hnr hne3 hbox
  go_wp2_with fail
  exact bodyPost_ret (v := .agg #[.slice a3 (l.length + 1) c3]) (by simp [results, Tryz.results67, go_sem, s5]) rfl ⟨⟨_, rfl, hbox'.out _⟩, hB3.setCell (p := ⟨w.heap.size + 1 + 1, 0, none⟩) (by show w.heap.size ≤ w.heap.size + 1 + 1; omega) _⟩

set_option maxRecDepth 100000 in
set_option maxHeartbeats 4000000 in
theorem with_old (v : Value) (l : List Upd) (kd : Nat) (key val : List UInt8) (dl : Nat) (w : World) (hv : BoxU w v l) (hl : l.length ≤ 100000) (hr : Rising Upd.key l) (i : Nat) (hi : below Upd.key l key = i) (hil : i < l.length) (hyes : hasKey Upd.key l key = true) (hf : Fine l) (J : Upd) (hJ : joinL l[i] ⟨kd, key, val, dl⟩ = J) (hk : kd < 256) (hd : dl < 18446744073709551616) :
    Calls Tryz.prog 67 #[v, .agg #[.int .u8 kd, .string (S key), .string (S val), .int .u64 dl]] w fun e w' => (∃ v', e = .returned v' ∧ OwnB w.heap.size w' v' (l.set i J)) ∧ Below w.heap.size w w' := by
  have hfind := fun w hv => findU v l key w hv (by omega) hr
  rw [hyes, hi] at hfind
  obtain ⟨hwf, hvl⟩ := hf _ (List.getElem_mem hil)
  have hjoin := fun w => join_any l[i] kd key val dl hwf hvl hk hd w
  simp only [hJ, updV] at hjoin
  have HJ := Lib.hid hjoin
  clear hjoin hf hJ
  obtain ⟨s, rfl, hs⟩ := hv
  have hcl := fun w hs => cloneU s l w hs (by omega)
  have HF := Lib.hid hfind
  have HC := Lib.hid hcl
  have HS := Lib.hid hs
  obtain ⟨ao, c, rfl, hs0, hc1, hc2, hn⟩ := hs
  clear hfind hcl hn hs0 hr
  go_enter Tryz.func67, Tryz.ntmps67
  go_wp2_with fail
  refine (thread (HF.out _ ⟨_, rfl, HS.out.kept (by go_grown) (Nat.le_refl _)⟩) w.heap.size w (by go_grown) (by go_grown)).mono ?_
  rintro e w1 ⟨rfl, hB1, hk1, hf1, hs1, hz1⟩
  have hs1' : w.heap.size + 1 + 1 < w1.heap.size := by simp at hs1; omega
  have p0 := (hk1 w.heap.size 0 (by first | (simp; done) | (simp; omega))).trans (by simp [go_sem]; rfl)
  have p1 := (hk1 (w.heap.size + 1) 0 (by first | (simp; done) | (simp; omega))).trans (by simp [go_sem]; rfl)
  have p2 := (hk1 (w.heap.size + 1) 1 (by first | (simp; done) | (simp; omega))).trans (by simp [go_sem]; rfl)
  have p3 := (hk1 (w.heap.size + 1) 2 (by first | (simp; done) | (simp; omega))).trans (by simp [go_sem]; rfl)
  have p4 := (hk1 (w.heap.size + 1) 3 (by first | (simp; done) | (simp; omega))).trans (by simp [go_sem]; rfl)
  have p5 := (hk1 (w.heap.size + 1 + 1) 0 (by first | (simp; done) | (simp; omega))).trans (by simp [go_sem]; rfl)
  have p6 : w1.frozen? ⟨w.heap.size + 1 + 1, 0, none⟩ = false := (hf1 (w.heap.size + 1 + 1) 0 (by first | (simp; done) | (simp; omega))).trans (by simp [go_sem])
  clear hk1 hf1 hs1
  go_wp2_with fail
  refine (thread (HC.out _ (HS.out.kept hB1 (Nat.le_refl _))) w.heap.size w hB1 hz1).mono ?_
  rintro e w2 ⟨⟨v', rfl, hown⟩, hB2, hk2, hf2, hs2, hz2⟩
  have q1 := (hk2 (w.heap.size + 1) 0 (by omega)).trans p1
  have q2 := (hk2 (w.heap.size + 1) 1 (by omega)).trans p2
  have q3 := (hk2 (w.heap.size + 1) 2 (by omega)).trans p3
  have q4 := (hk2 (w.heap.size + 1) 3 (by omega)).trans p4
  have q5 := (hk2 (w.heap.size + 1 + 1) 0 (by omega)).trans p5
  have q6 := (hf2 (w.heap.size + 1 + 1) 0 (by omega)).trans p6
  clear hk2 hf2 p0 p1 p2 p3 p4 p5 p6
  obtain ⟨ao', c', e'⟩ := own_form hown
  subst e'
  have hgl := own_at hown (by omega)
  obtain ⟨g, rfl, hgB, hgl, hrow⟩ := hgl
  have hcell := fun j x hx => hrow (i * 4 + j) x (cellsU_get l i hil j x hx)
  have t0 := hcell 0 _ rfl
  have t1 := hcell 1 _ rfl
  have t2 := hcell 2 _ rfl
  have t3 := hcell 3 _ rfl
  rw [Nat.add_zero] at t0
  have hfz := hown.frozenAt
  have hi0 : (0 : Int) ≤ (i : Int) := by omega
  have hi1 : (i : Int) < (l.length : Int) := by omega
  clear hcell hrow
  generalize l[i] = u at *
  go_wp2_with fail
  have hnr : (Value.slice (some ⟨g, 0, none⟩) l.length c').ownBlock ≠ some (w.heap.size + 1 + 1) := fun e => by have := (hown.lt _ e).1; omega
  have hown' := Lib.hid hown
  go_region_law (first | (go_simp; go_at_call 95; refine (HJ.out _).mono ?_; rintro e w4 ⟨rfl, hb4⟩; have hown4 := own_below (World.ownsRow.drew hown'.out) hb4; have hB4 := (below_drew' hB2).trans (below_same hb4 hz2); have hk4 := (bcell hb4).1; have hf4 := (bcell hb4).2; have y0 := (hk4 g (i * 4) (by first | exact hgl | (simp; omega))).trans t0; have y1 := (hk4 g (i * 4 + 1) (by first | exact hgl | (simp; omega))).trans t1; have y2 := (hk4 g (i * 4 + 2) (by first | exact hgl | (simp; omega))).trans t2; have y3 := (hk4 g (i * 4 + 3) (by first | exact hgl | (simp; omega))).trans t3; have z5 := (hk4 (w.heap.size + 1 + 1) 0 (by first | (simp; omega) | omega)).trans q5; have z6 := (hf4 (w.heap.size + 1 + 1) 0 (by first | (simp; omega) | omega)).trans q6; have zf := fun o => (hf4 g o (by first | exact hgl | (simp; omega))).trans (hfz o); clear hk4 hf4 hb4))
  all_goals
    have hset := (((((hown4.stored (i * 4) (.int .u8 J.kind)).1.stored (i * 4 + 1) (.string (S J.key))).1.stored (i * 4 + 2) (.string (S J.val))).1.stored (i * 4 + 3) (.int .u64 J.delta)).1)
    rw [cellsU_set l i J hil] at hset
    have hlen' : (l.set i J).length = l.length := List.length_set ..
    have hbox := fun u => OwnB.mk (own_base (B' := w.heap.size) (ownsRow_setCell_other (a := ⟨w.heap.size + 1 + 1, 0, none⟩) hset hnr u) (by omega))
    have hbox' := Lib.hid hbox
    have hB5 := (((hB4.setCell (p := ⟨g, i * 4, none⟩) (by show w.heap.size ≤ g; omega) (.int .u8 J.kind)).setCell (p := ⟨g, i * 4 + 1, none⟩) (by show w.heap.size ≤ g; omega) (.string (S J.key))).setCell (p := ⟨g, i * 4 + 2, none⟩) (by show w.heap.size ≤ g; omega) (.string (S J.val))).setCell (p := ⟨g, i * 4 + 3, none⟩) (by show w.heap.size ≤ g; omega) (.int .u64 J.delta)
    clear hset hown4 hbox y0 y1 y2 y3 t0 t1 t2 t3 zf hfz
    go_wp2_with fail
    exact bodyPost_ret (v := .agg #[.slice (some ⟨g, 0, none⟩) l.length c']) (by simp [results, Tryz.results67, go_sem, z5]) rfl ⟨⟨_, rfl, hbox'.out _⟩, hB5.setCell (p := ⟨w.heap.size + 1 + 1, 0, none⟩) (by show w.heap.size ≤ w.heap.size + 1 + 1; omega) _⟩

/-- With, whether its key waits or not. -/
theorem with_own (v : Value) (l : List Upd) (kd : Nat) (key val : List UInt8) (dl : Nat) (w : World) (hv : BoxU w v l) (hl : l.length ≤ 100000) (hr : Rising Upd.key l) (hf : Fine l) (hk : kd < 256) (hd : dl < 18446744073709551616) :
    Calls Tryz.prog 67 #[v, .agg #[.int .u8 kd, .string (S key), .string (S val), .int .u64 dl]] w fun e w' => (∃ v', e = .returned v' ∧ OwnB w.heap.size w' v' (withL l ⟨kd, key, val, dl⟩)) ∧ Below w.heap.size w w' := by
  cases hh : hasKey Upd.key l key with
  | false =>
    have := with_new v l kd key val dl w hv hl hr hh
    rwa [show withL l ⟨kd, key, val, dl⟩ = insU l (below Upd.key l key) ⟨kd, key, val, dl⟩ by unfold withL; rw [dif_neg (by simp [hh])]]
  | true =>
    obtain ⟨hlt, hkey⟩ := (hr.found key).1 hh
    have := with_old v l kd key val dl w hv hl hr _ rfl hlt hh hf _ rfl hk hd
    rwa [show withL l ⟨kd, key, val, dl⟩ = l.set (below Upd.key l key) (joinL (l[below Upd.key l key]'hlt) ⟨kd, key, val, dl⟩) by unfold withL; rw [dif_pos ⟨hlt, hh⟩]]
theorem with_any (v : Value) (l : List Upd) (kd : Nat) (key val : List UInt8) (dl : Nat) (w : World) (hv : BoxU w v l) (hl : l.length ≤ 100000) (hr : Rising Upd.key l) (hf : Fine l) (hk : kd < 256) (hd : dl < 18446744073709551616) :
    Calls Tryz.prog 67 #[v, .agg #[.int .u8 kd, .string (S key), .string (S val), .int .u64 dl]] w fun e w' => (∃ v', e = .returned v' ∧ BoxU w' v' (withL l ⟨kd, key, val, dl⟩)) ∧ Below w.heap.size w w' :=
  (with_own v l kd key val dl w hv hl hr hf hk hd).mono fun _ _ ⟨⟨v', he, h⟩, hb⟩ => ⟨⟨v', he, h.box⟩, hb⟩

end Go.Proofs.YtafciefjlkdecaaGreat
