/-
  The walk of msg.All.
-/
import Derived.Test.YtcjeonamebnpfaaFldP
import Derived.Test.YtcjeonamebnpfaaUpdB
namespace Go.Proofs.Ytcjeonamebnpfaa
open Go.RowKit
attribute [local go_sem ↓] Go.wp_at_zero Go.wp_at_succ

theorem onAllL_step (v : List UInt8) (th : Bool) (l : List Upd) (j : Nat) (hj : j < l.length) : onAllL v th (l.take (j + 1)) = onL (onAllL v th (l.take j)).1 (onAllL v th (l.take j)).2 l[j] := by
  rw [List.take_succ_eq_append_getElem hj, onAllL_snoc]

set_option maxRecDepth 100000 in
set_option maxHeartbeats 4000000 in
theorem msgAll_any (v : List UInt8) (th : Bool) (a : Option Addr) (n c : Nat) (l : List Upd) (w : World) (hn : n = l.length) (hs : SlAt Upd.cells 4 w a l) (hl : l.length ≤ 1000) (hf : ∀ u ∈ l, Tm u) (hv : v.length ≤ 20) :
    Calls Try.prog 25 #[.string (S v), .bool th, .slice a n c] w fun e w' => e = .returned (.tuple #[.string (S (onAllL (if th then v else []) th l).1), .bool (onAllL (if th then v else []) th l).2]) ∧ Below w.heap.size w w' := by
  have HN := Lib.hid hn
  have HF := Lib.hid hf
  have HS := Lib.hid hs
  have hv0 : ∀ j, (onAllL (if th then v else []) th (l.take j)).1.length ≤ 20 := fun j => onAllL_len _ th (by split <;> simp [hv]) _ (fun u hu => hf u (List.mem_of_mem_take hu))
  have HV := Lib.hid hv0
  have HST := Lib.hid (fun j hj => onAllL_step (if th then v else []) th l j hj)
  have hfin : l.take l.length = l := List.take_length
  have HFIN := Lib.hid hfin
  have h0 : onAllL (if th then v else []) th (l.take 0) = (if th then v else [], th) := rfl
  clear hn hf hs hv0 hv hfin
  generalize hG : (fun j => onAllL (if th then v else []) th (l.take j)) = G
  have HG := Lib.hid (fun j => congrFun hG j)
  have hend : onAllL (if th then v else []) th l = G l.length := by rw [← HG.out]; show _ = onAllL _ th (l.take l.length); rw [HFIN.out]
  rw [hend]
  have hst0 : G 0 = (if th then v else [], th) := by rw [← HG.out]; exact h0
  have HST2 := Lib.hid (fun j hj => (by have := HST.out j hj; rw [show onAllL (if th then v else []) th (l.take (j + 1)) = G (j + 1) from HG.out (j + 1), show onAllL (if th then v else []) th (l.take j) = G j from HG.out j] at this; exact this : G (j + 1) = onL (G j).1 (G j).2 (l[j]'hj)))
  have HV2 := Lib.hid (fun j => (by have := HV.out j; rw [show onAllL (if th then v else []) th (l.take j) = G j from HG.out j] at this; exact this : (G j).1.length ≤ 20))
  clear hG HG hend HST HV h0 HFIN
  cases th with
  | true =>
    have HS0 := Lib.hid hst0
    clear hst0
    go_enter Try.func25, Try.ntmps25
    go_wp2_with fail
    go_loopw [14, 0, 1] (fun i vv tv wr => ∃ j : Nat, i = .int .i64 j ∧ j ≤ n ∧ vv = .string (S (G j).1) ∧ tv = .bool (G j).2 ∧ Below w.heap.size w wr) (fun i _ _ _ => n - (intOf i).toNat)
    case atStart => exact ⟨0, rfl, Nat.zero_le _, by rw [HS0.out]; rfl, by rw [HS0.out], Below.refl _ _⟩
    case round =>
      obtain ⟨j, rfl, hj, rfl, rfl, hB⟩ := hrel
      have hj0 : (0 : Int) ≤ (j : Int) := Int.natCast_nonneg _
      have hgl := HV2.out j
      by_cases hjn : j < n
      · have hj1 : (j : Int) < (n : Int) := by omega
        have hjl : j < l.length := by have := HN.out; omega
        obtain ⟨b, off, rfl, hb, t0, t1, t2, t3⟩ := SlAt.cells4 HS.out j hjl
        have q0 := (cell_below hB hb _).trans t0
        have q1 := (cell_below hB hb _).trans t1
        have q2 := (cell_below hB hb _).trans t2
        have q3 := (cell_below hB hb _).trans t3
        have hT := HF.out _ (List.getElem_mem hjl)
        have HGS := Lib.hid (HST2.out j hjl)
        clear t0 t1 t2 t3
        generalize l[j] = u at *
        generalize hg : G j = g at *
        have HG1 := Lib.hid hg
        clear hg
        go_wp2_with fail
        refine (thread (on_any g.1 g.2 u.kind u.key u.val u.delta (by omega) hT.wf.1 hT.wf.2 _) wr.heap.size wr (by go_grown) (by go_grown)).mono ?_
        rintro e w1 ⟨rfl, hX1, -, -, -, hz1⟩
        have hB1 := hB.trans (hX1.mono hB.size)
        unfold onV
        go_wp2_with fail
        go_roundw
        (case rel => exact ⟨j + 1, by go_num, by omega, by rw [HGS.out], by rw [HGS.out], hB1⟩)
        (case measure => first | (simp [intOf]; done) | (simp [intOf]; omega))
      · obtain rfl : j = n := by omega
        go_wp2_with fail
        go_ret2
        exact ⟨by rw [HN.out]; rfl, hB⟩
  | false =>
    have HS0 := Lib.hid hst0
    clear hst0
    go_enter Try.func25, Try.ntmps25
    go_wp2_with fail
    go_loopw [14, 0, 1] (fun i vv tv wr => ∃ j : Nat, i = .int .i64 j ∧ j ≤ n ∧ vv = .string (S (G j).1) ∧ tv = .bool (G j).2 ∧ Below w.heap.size w wr) (fun i _ _ _ => n - (intOf i).toNat)
    case atStart => exact ⟨0, rfl, Nat.zero_le _, by rw [HS0.out]; rfl, by rw [HS0.out], Below.refl _ _⟩
    case round =>
      obtain ⟨j, rfl, hj, rfl, rfl, hB⟩ := hrel
      have hj0 : (0 : Int) ≤ (j : Int) := Int.natCast_nonneg _
      have hgl := HV2.out j
      by_cases hjn : j < n
      · have hj1 : (j : Int) < (n : Int) := by omega
        have hjl : j < l.length := by have := HN.out; omega
        obtain ⟨b, off, rfl, hb, t0, t1, t2, t3⟩ := SlAt.cells4 HS.out j hjl
        have q0 := (cell_below hB hb _).trans t0
        have q1 := (cell_below hB hb _).trans t1
        have q2 := (cell_below hB hb _).trans t2
        have q3 := (cell_below hB hb _).trans t3
        have hT := HF.out _ (List.getElem_mem hjl)
        have HGS := Lib.hid (HST2.out j hjl)
        clear t0 t1 t2 t3
        generalize l[j] = u at *
        generalize hg : G j = g at *
        have HG1 := Lib.hid hg
        clear hg
        go_wp2_with fail
        refine (thread (on_any g.1 g.2 u.kind u.key u.val u.delta (by omega) hT.wf.1 hT.wf.2 _) wr.heap.size wr (by go_grown) (by go_grown)).mono ?_
        rintro e w1 ⟨rfl, hX1, -, -, -, hz1⟩
        have hB1 := hB.trans (hX1.mono hB.size)
        unfold onV
        go_wp2_with fail
        go_roundw
        (case rel => exact ⟨j + 1, by go_num, by omega, by rw [HGS.out], by rw [HGS.out], hB1⟩)
        (case measure => first | (simp [intOf]; done) | (simp [intOf]; omega))
      · obtain rfl : j = n := by omega
        go_wp2_with fail
        go_ret2
        exact ⟨by rw [HN.out]; rfl, hB⟩

end Go.Proofs.Ytcjeonamebnpfaa
