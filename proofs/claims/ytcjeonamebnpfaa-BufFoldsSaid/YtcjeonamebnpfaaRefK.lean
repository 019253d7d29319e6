/-
  The walk of the document's Cut.
-/
import Derived.Test.YtcjeonamebnpfaaTmQ
import Derived.Test.YtcjeonamebnpfaaRefG
namespace Go.Proofs.Ytcjeonamebnpfaa
open Go.RowKit
attribute [local go_sem ↓] Go.wp_at_zero Go.wp_at_succ

theorem infoV2 : (Try.prog.info? 32).map (fun i => (i.zero, i.size, i.bytes)) = some (some (.agg #[.int .u8 0, .string ByteArray.empty, .string ByteArray.empty, .int .u64 0]), 4, 48) := by kernel_rfl
set_option maxRecDepth 100000 in
set_option maxHeartbeats 1000000 in
theorem within_any (k low high : List UInt8) (w : World) :
    Calls Try.prog 64 #[.string (S k), .string (S low), .string (S high)] w fun e w' => e = .returned (.bool (withinB k low high)) ∧ w = w' := by
  cases h1 : bl k low with
  | true =>
    have h1' : Op.bytesLess k low = true := h1
    have HV := Lib.hid (show withinB k low high = false by unfold withinB; rw [h1]; rfl)
    clear h1
    go_enter Try.func64, Try.ntmps64
    go_wp2_with fail
    go_ret
    exact ⟨ret_bool (by rw [HV.out]), rfl⟩
  | false =>
    have h1' : Op.bytesLess k low = false := h1
    cases hh : high with
    | nil =>
      have HV := Lib.hid (show withinB k low [] = true by unfold withinB; rw [h1]; rfl)
      clear h1 hh
      go_enter Try.func64, Try.ntmps64
      go_wp2_with fail
      go_ret
      exact ⟨ret_bool (by rw [HV.out]), rfl⟩
    | cons a t =>
      have HV := Lib.hid (show withinB k low (a :: t) = bl k (a :: t) by unfold withinB; rw [h1]; rfl)
      clear h1 hh
      cases h2 : bl k (a :: t) with
      | true =>
        have h2' : Op.bytesLess k (a :: t) = true := h2
        rw [h2] at HV
        clear h2
        go_enter Try.func64, Try.ntmps64
        go_wp2_with fail
        go_ret
        exact ⟨ret_bool (by rw [HV.out]), rfl⟩
      | false =>
        have h2' : Op.bytesLess k (a :: t) = false := h2
        rw [h2] at HV
        clear h2
        go_enter Try.func64, Try.ntmps64
        go_wp2_with fail
        go_ret
        exact ⟨ret_bool (by rw [HV.out]), rfl⟩

set_option maxRecDepth 100000 in
set_option maxHeartbeats 4000000 in
theorem refCut_any (ao : Option Addr) (n c : Nat) (l : List Upd) (low high : List UInt8) (w : World) (hn : n = l.length) (hs : SlAt Upd.cells 4 w ao l) (hl : l.length ≤ 1000) :
    Calls Try.prog 38 #[.slice ao n c, .string (S low), .string (S high)] w fun e w' => (∃ a c' a2 c2, e = .returned (.tuple #[.slice a (l.filter fun u => withinB u.key low high).length c', .slice a2 (l.filter fun u => !withinB u.key low high).length c2]) ∧
      w'.ownsRow w.heap.size 32 4 (.slice a (l.filter fun u => withinB u.key low high).length c') (l.filter fun u => withinB u.key low high).length (cellsU (l.filter fun u => withinB u.key low high)) ∧
      w'.ownsRow w.heap.size 32 4 (.slice a2 (l.filter fun u => !withinB u.key low high).length c2) (l.filter fun u => !withinB u.key low high).length (cellsU (l.filter fun u => !withinB u.key low high))) ∧ Below w.heap.size w w' := by
  subst hn
  obtain ⟨i0, hi, iz0, iz1, iz2⟩ := info_parts infoV2
  have HS := Lib.hid hs
  generalize hF : (fun u : Upd => withinB u.key low high) = F
  generalize hG : (fun u : Upd => !withinB u.key low high) = G
  have HF := Lib.hid (fun x : Upd => congrFun hF x)
  have HG := Lib.hid (fun x : Upd => congrFun hG x)
  clear hs hF hG
  go_enter Try.func38, Try.ntmps38
  go_wp2_with fail
  go_loopw [10, 8, 9] (fun i av bv wr => ∃ (j : Nat) (o p : List Upd), i = .int .i64 j ∧ j ≤ l.length ∧ Hid (o = (l.take j).filter F ∧ p = (l.take j).filter G) ∧ TwoR w.heap.size 32 w wr av bv o.length p.length (cellsU o) (cellsU p)) (fun i _ _ _ => l.length - (intOf i).toNat)
  case atStart => exact ⟨0, [], [], rfl, Nat.zero_le _, Lib.hid ⟨rfl, rfl⟩, World.ownsRow_nil _ _ _ _, World.ownsRow_nil _ _ _ _, Below.refl _ _, Nat.le_refl _, fun k e => by simp [Value.ownBlock] at e⟩
  case round =>
    obtain ⟨j, o, p, rfl, hj, hop, hT⟩ := hrel
    have hj0 : (0 : Int) ≤ (j : Int) := Int.natCast_nonneg _
    obtain ⟨ov, oc, eo⟩ := own_form hT.own1
    subst eo
    obtain ⟨pv, pc, ep⟩ := own_form hT.own2
    subst ep
    have hol : o.length ≤ l.length := by rw [hop.out.1]; exact filter_le F l j
    have hpl : p.length ≤ l.length := by rw [hop.out.2]; exact filter_le G l j
    have HT := Lib.hid hT
    clear hT
    by_cases hjl : j < l.length
    · have hj1 : (j : Int) < (l.length : Int) := by omega
      obtain ⟨bx, off, rfl, hb, t0, t1, t2, t3⟩ := SlAt.cells4 HS.out j hjl
      have hBw := HT.out.below
      have q0 := (cell_below hBw hb _).trans t0
      have q1 := (cell_below hBw hb _).trans t1
      have q2 := (cell_below hBw hb _).trans t2
      have q3 := (cell_below hBw hb _).trans t3
      have hb2 : bx < wr.heap.size := Nat.lt_of_lt_of_le hb hBw.size
      have HP1 := Lib.hid (filter_take F l j hjl)
      have HP2 := Lib.hid (filter_take G l j hjl)
      clear t0 t1 t2 t3 hBw
      generalize l[j] = x at *
      have HWI := Lib.hid (fun W => within_any x.key low high W)
      have HFx := HF.out x
      have HGx := HG.out x
      cases hwi : withinB x.key low high with
      | true =>
        rw [hwi] at HWI HFx HGx
        have HO1 := Lib.hid (show (l.take (j + 1)).filter F = o ++ [x] by rw [HP1.out, ← HFx, if_pos (by rfl), hop.out.1])
        have HO2 := Lib.hid (show (l.take (j + 1)).filter G = p by rw [HP2.out, ← HGx, if_neg (by simp), hop.out.2])
        clear hwi HFx HGx HP1 HP2
        go_wp2_with fail
        refine (thread (((HWI.out _).mono fun e w1 h => (⟨h.1, h.2 ▸ Below.refl _ _⟩ : _ ∧ Below _ _ w1))) wr.heap.size wr (by go_grown) (by go_grown)).mono ?_
        rintro e w1 ⟨rfl, hX1, -, -, -, hz1⟩
        have r0 := (hX1.cell (p := ⟨bx, off + j * 4, none⟩) hb2).trans q0
        have r1 := (hX1.cell (p := ⟨bx, off + j * 4 + 1, none⟩) hb2).trans q1
        have r2 := (hX1.cell (p := ⟨bx, off + j * 4 + 2, none⟩) hb2).trans q2
        have r3 := (hX1.cell (p := ⟨bx, off + j * 4 + 3, none⟩) hb2).trans q3
        have HT1 := Lib.hid (HT.out.on hX1)
        clear q0 q1 q2 q3 hX1 HT HWI
        have hT2 := HT1.out.below.size
        go_wp2_with (at_builtin; go_must (refine wpList_append_own_at _ rfl (.tmp 27) (.tmp 32) 91 rfl w.heap.size 32 i0 (.agg #[.int .u8 0, .string ByteArray.empty, .string ByteArray.empty, .int .u64 0]) 4 48 Try.underlying91 hi iz0 iz1 iz2 rfl (by decide) _ o.length _ rfl (HT1.out.own1.alloc _) ⟨w1.heap.size, 0, none⟩ 1 1 [.int .u8 x.kind, .string (S x.key), .string (S x.val), .int .u64 x.delta] rfl rfl (cell_four_new _ _ _ _ _ _) (four_oneCell _ _ _ _) (by unfold maxLen; omega) (by omega) (by have := HT1.out.le; simp at this ⊢; omega) ?_; intro vz wz hownwz hgrowwz hzz hbz))
        go_wp2_with fail
        go_roundw
        (case rel => exact ⟨j + 1, o ++ [x], p, by go_num, by omega, Lib.hid ⟨HO1.out.symm, HO2.out.symm⟩, by rw [cellsU_snoc, List.length_append, List.length_singleton]; exact (HT1.out.on ((Below.refl _ _).alloc (Nat.le_refl _) _)).app hownwz hgrowwz hbz⟩)
        (case measure => first | (simp [intOf]; done) | (simp [intOf]; omega))
      | false =>
        rw [hwi] at HWI HFx HGx
        have HO1 := Lib.hid (show (l.take (j + 1)).filter F = o by rw [HP1.out, ← HFx, if_neg (by simp), hop.out.1])
        have HO2 := Lib.hid (show (l.take (j + 1)).filter G = p ++ [x] by rw [HP2.out, ← HGx, if_pos (by rfl), hop.out.2])
        clear hwi HFx HGx HP1 HP2
        go_wp2_with fail
        refine (thread (((HWI.out _).mono fun e w1 h => (⟨h.1, h.2 ▸ Below.refl _ _⟩ : _ ∧ Below _ _ w1))) wr.heap.size wr (by go_grown) (by go_grown)).mono ?_
        rintro e w1 ⟨rfl, hX1, -, -, -, hz1⟩
        have r0 := (hX1.cell (p := ⟨bx, off + j * 4, none⟩) hb2).trans q0
        have r1 := (hX1.cell (p := ⟨bx, off + j * 4 + 1, none⟩) hb2).trans q1
        have r2 := (hX1.cell (p := ⟨bx, off + j * 4 + 2, none⟩) hb2).trans q2
        have r3 := (hX1.cell (p := ⟨bx, off + j * 4 + 3, none⟩) hb2).trans q3
        have HT1 := Lib.hid (HT.out.on hX1)
        clear q0 q1 q2 q3 hX1 HT HWI
        have hT2 := HT1.out.below.size
        go_wp2_with (at_builtin; go_must (refine wpList_append_own_at _ rfl (.tmp 34) (.tmp 39) 91 rfl w.heap.size 32 i0 (.agg #[.int .u8 0, .string ByteArray.empty, .string ByteArray.empty, .int .u64 0]) 4 48 Try.underlying91 hi iz0 iz1 iz2 rfl (by decide) _ p.length _ rfl (HT1.out.own2.alloc _) ⟨w1.heap.size, 0, none⟩ 1 1 [.int .u8 x.kind, .string (S x.key), .string (S x.val), .int .u64 x.delta] rfl rfl (cell_four_new _ _ _ _ _ _) (four_oneCell _ _ _ _) (by unfold maxLen; omega) (by omega) (by have := HT1.out.le; simp at this ⊢; omega) ?_; intro vz wz hownwz hgrowwz hzz hbz))
        go_wp2_with fail
        go_roundw
        (case rel => exact ⟨j + 1, o, p ++ [x], by go_num, by omega, Lib.hid ⟨HO1.out.symm, HO2.out.symm⟩, by rw [cellsU_snoc, List.length_append, List.length_singleton]; exact ((HT1.out.on ((Below.refl _ _).alloc (Nat.le_refl _) _)).symm.app hownwz hgrowwz hbz).symm⟩)
        (case measure => first | (simp [intOf]; done) | (simp [intOf]; omega))
    · obtain rfl : j = l.length := by omega
      have h1 := hop.out.1
      have h2 := hop.out.2
      rw [List.take_length] at h1 h2
      subst h1 h2
      go_wp2_with fail
      refine bodyPost_ret (v := .tuple #[.slice ov (l.filter F).length oc, .slice pv (l.filter G).length pc]) (by simp [results, Try.results38, go_sem]) rfl ⟨⟨ov, oc, pv, pc, rfl, HT.out.own1, HT.out.own2⟩, HT.out.below⟩

end Go.Proofs.Ytcjeonamebnpfaa
