/-
  The walks of the document's Right, and of leaf.Of.
-/
import Derived.Test.YtcjeonamebnpfaaRgt
import Derived.Test.YtcjeonamebnpfaaUse
import Derived.BigQuiet
import Derived.Deep.DrawnRows
import Derived.Deep.RegionWith
namespace Go.Proofs.Ytcjeonamebnpfaa
open Go.RowKit
attribute [local go_sem ↓] Go.wp_at_zero Go.wp_at_succ

set_option maxRecDepth 100000 in
set_option maxHeartbeats 4000000 in
theorem refRight_any (ao : Option Addr) (c : Nat) (l : List Ent) (bo : Bool) (hbo : bo = true ↔ RightE l) (w : World) (hl : l.length ≤ 1000000) (hs : SlAt Ent.cells 2 w ao l) :
    Calls Try.prog 27 #[.slice ao l.length c] w fun e w' => e = .returned (.bool bo) ∧ Below w.heap.size w w' := by
  have HBO := Lib.hid hbo
  have HS := Lib.hid hs
  clear hbo hs
  go_enter Try.func27, Try.ntmps27
  go_wp2_with fail
  go_loopw [3] (fun i wr => ∃ j : Nat, i = .int .i64 j ∧ j ≤ l.length ∧ Hid (RightE (l.take j)) ∧ Below w.heap.size w wr) (fun i _ => l.length - (intOf i).toNat)
  case atStart => exact ⟨0, rfl, Nat.zero_le _, Lib.hid right_nil, Below.refl _ _⟩
  case round =>
    obtain ⟨j, rfl, hj, hR, hB⟩ := hrel
    have hj0 : (0 : Int) ≤ (j : Int) := Int.natCast_nonneg _
    by_cases hjl : j < l.length
    · have hj1 : (j : Int) < (l.length : Int) := by omega
      have hst := Lib.hid (right_step l j hjl hR.out)
      have hno : Hid (¬ RightE (l.take (j + 1)) → bo = false) := Lib.hid fun h => by
        cases hbb : bo with
        | false => rfl
        | true => exact absurd (HBO.out.1 hbb) (right_not h)
      obtain ⟨b, off, rfl, hb, t0, t1⟩ := SlAt.cells2 HS.out j hjl
      have q0 := (cell_below hB hb _).trans t0
      have q1 := (cell_below hB hb _).trans t1
      clear t0 t1
      cases hok : okB l[j] with
      | false =>
        have hbf := Lib.hid (hno.out (fun h => by have := (hst.out.1 h).1; rw [hok] at this; exact absurd this (by simp)))
        have hnk : ¬ (1 ≤ l[j].key.length ∧ l[j].key.length ≤ 16 ∧ l[j].val.length ≤ 32) := fun h => by have := (okB_iff l[j]).2 h; rw [hok] at this; exact absurd this (by simp)
        clear hst hno hok
        generalize l[j] = u at *
        by_cases h1 : u.key.length < 1
        · clear hnk
          go_wp2_with fail
          exact bodyPost_ret (v := .bool false) (by simp [results, Try.results27, go_sem]) rfl ⟨by rw [hbf.out], hB⟩
        · by_cases h2 : 16 < u.key.length
          · clear hnk
            go_wp2_with fail
            exact bodyPost_ret (v := .bool false) (by simp [results, Try.results27, go_sem]) rfl ⟨by rw [hbf.out], hB⟩
          · have h3 : 32 < u.val.length := by omega
            clear hnk
            go_wp2_with fail
            exact bodyPost_ret (v := .bool false) (by simp [results, Try.results27, go_sem]) rfl ⟨by rw [hbf.out], hB⟩
      | true =>
        obtain ⟨k1, k2, k3⟩ := (okB_iff l[j]).1 hok
        have g1 : ¬ l[j].key.length < 1 := by omega
        have g2 : ¬ 16 < l[j].key.length := by omega
        have g3 : ¬ 32 < l[j].val.length := by omega
        rcases j with _ | q
        · have hR2 := Lib.hid (hst.out.2 ⟨hok, fun h => absurd h (by omega)⟩)
          clear hst hno hok
          generalize l[0] = u at *
          rw [show ((0 : Nat) : Int) = 0 from rfl] at hj1
          rw [Nat.zero_mul, Nat.add_zero] at q0 q1
          have hd : decide ((0 : Int) < 0) = false := rfl
          go_wp2_with fail
          go_quiet (fail)
          go_wp2_with fail
          exact ⟨⟨1, by go_num, by omega, hR2, below_drewN hB _⟩, by simp [intOf]; omega⟩
        · obtain ⟨b', off', e', hb', t0', t1'⟩ := SlAt.cells2 HS.out q (by omega)
          simp only [Option.some.injEq, Addr.mk.injEq] at e'
          obtain ⟨rfl, rfl, -⟩ := e'
          have q2 := (cell_below hB hb _).trans t0'
          have hq0 : (0 : Int) ≤ (q : Int) := Int.natCast_nonneg _
          have hq1 : (q : Int) < (l.length : Int) := by omega
          have hw1 : IntKind.i64.wrap ((q : Int) + 1 - 1) = (q : Int) := by rw [show (q : Int) + 1 - 1 = (q : Int) by omega]; exact IntWalk.i64_in _ (by omega)
          have hd : decide ((0 : Int) < (q : Int) + 1) = true := by rw [decide_eq_true_iff]; omega
          clear t0' t1'
          cases hlt : bl l[q].key l[q + 1].key with
          | true =>
            have hR2 := Lib.hid (hst.out.2 ⟨hok, fun h => hlt⟩)
            clear hst hno hok
            have hlt' : Op.bytesLess l[q].key l[q + 1].key = true := hlt
            clear hlt
            generalize l[q + 1] = u at *
            generalize l[q] = u' at *
            go_wp2_with fail
            go_quiet (fail)
            go_wp2_with fail
            exact ⟨⟨q + 2, by go_num, by omega, hR2, below_drewN hB _⟩, by simp [intOf]; omega⟩
          | false =>
            have hbf := Lib.hid (hno.out (fun h => by have this : bl l[q].key l[q + 1].key = true := (hst.out.1 h).2 (by omega); rw [hlt] at this; exact absurd this (by simp)))
            clear hst hno hok
            have hlt' : Op.bytesLess l[q].key l[q + 1].key = false := hlt
            clear hlt
            generalize l[q + 1] = u at *
            generalize l[q] = u' at *
            go_wp2_with fail
            go_quiet (fail)
            go_wp2_with fail
            exact bodyPost_ret (v := .bool false) (by simp [results, Try.results27, go_sem]) rfl ⟨by rw [hbf.out], below_drewN hB _⟩
    · obtain rfl : j = l.length := by omega
      have hbt := Lib.hid (HBO.out.2 (by have := hR.out; rwa [List.take_length] at this))
      go_wp2_with fail
      exact bodyPost_ret (v := .bool true) (by simp [results, Try.results27, go_sem]) rfl ⟨by rw [hbt.out], hB⟩

end Go.Proofs.Ytcjeonamebnpfaa
