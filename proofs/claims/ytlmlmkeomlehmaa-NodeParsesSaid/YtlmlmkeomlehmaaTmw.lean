/-
  The walk of law 17's tame.
-/
import Derived.Test.YtlmlmkeomlehmaaOfw
namespace Go.Proofs.Ytlmlmkeomlehmaa
open Go.RowKit
attribute [local go_sem ↓] Go.wp_at_zero Go.wp_at_succ

theorem infoLC : (Try.prog.info? 112).map (fun i => (i.zero, i.size, i.bytes)) = some (some (.agg #[.string ByteArray.empty, .int .i64 0, .int .u64 0, .int .u32 0]), 4, 40) := by kernel_rfl
theorem bmax0 (x : Int) : ∃ y : Nat, bmax 0 x = (y : Int) := ⟨x.toNat, by unfold bmax; split <;> omega⟩
theorem bmax0_is (x : Int) : bmax 0 x = (x.toNat : Int) := by unfold bmax; split <;> omega
/-- What tame makes of a child. -/
def tm17 (i : Nat) (c : Chd) : Chd := ⟨UInt8.ofNat (4 * i + 4 + c.low.length % 4) :: c.low.take 10, ((c.addr.toNat % 2147483648 : Nat) : Int), c.gen, c.sum⟩
def tameC (l : List Chd) : List Chd := ⟨[], 1, 0, 0⟩ :: (l.take 15).mapIdx tm17
def tameCto (l : List Chd) (j : Nat) : List Chd := ⟨[], 1, 0, 0⟩ :: (l.take j).mapIdx tm17
theorem tameCto_len (l : List Chd) {j : Nat} (h : j ≤ l.length) : (tameCto l j).length = j + 1 := by simp [tameCto]; omega
theorem tameCto_succ (l : List Chd) {j : Nat} (h : j < l.length) : tameCto l (j + 1) = tameCto l j ++ [tm17 j l[j]] := by
  unfold tameCto
  rw [List.take_succ_eq_append_getElem h, List.mapIdx_append]
  simp [Nat.min_eq_left (Nat.le_of_lt h)]
theorem tameCto_all (l : List Chd) : tameCto l (min l.length 15) = tameC l := by
  unfold tameCto tameC
  by_cases h : l.length ≤ 15
  · rw [Nat.min_eq_left h, List.take_length, List.take_of_length_le h]
  · rw [Nat.min_eq_right (by omega)]

set_option maxRecDepth 100000 in
set_option maxHeartbeats 8000000 in
theorem tame17_any (ao : Option Addr) (c : Nat) (l : List Chd) (w : World) (hs : SlAt Chd.cells 4 w ao l) (hc : l.length ≤ c) (hsl : ∀ x ∈ l, x.low.length ≤ 140737488355328) :
    Calls Try.prog 12 #[.slice ao l.length c] w fun e w' => (∃ a y, e = .returned (.slice a (tameC l).length y) ∧ w'.ownsRow w.heap.size 112 4 (.slice a (tameC l).length y) (tameC l).length (cellsC (tameC l))) ∧ Below w.heap.size w w' := by
  obtain ⟨i0, hi, iz0, iz1, iz2⟩ := info_parts infoLC
  have hcv := fun w n c => run_str1 (P := Try.prog) 54 9 5 Try.underlying54 Try.underlying5 Try.underlying9 w n c
  have hmin := fun ts t a b w => run_tmin (P := Try.prog) ts t a b w
  have hmax := fun ts t a b w => run_bmax (P := Try.prog) ts t a b w
  have hmm : tmin (l.length : Int) 15 = ((min l.length 15 : Nat) : Int) := tmin_nat _ 15
  generalize hM : min l.length 15 = k at *
  have hkx : k ≤ l.length := by omega
  have hk15 : k ≤ 15 := by omega
  have hcut := fun W => cut_LC ao l.length c k hkx hc W
  have HM := Lib.hid hM
  have HS := Lib.hid hs
  have HSL := Lib.hid hsl
  clear hM hs hsl
  go_enter Try.func12, Try.ntmps12
  go_upto_region 2 with (fail)
  have hRI := RowIs.new w 112 [.string ⟨#[]⟩, .int .i64 1, .int .u64 0, .int .u32 0]
  have HO0 := Lib.hid (show (w.alloc (.cells #[.string ⟨#[]⟩, .int .i64 1, .int .u64 0, .int .u32 0] 112)).ownsRow w.heap.size 112 4 (.slice (some ⟨w.heap.size, 0, none⟩) 1 1) 1 (cellsC (tameCto l 0)) from ownsRow_shut (Nat.le_refl _) hRI (Nat.le_refl _) (by unfold maxLen; omega) rfl rfl)
  have HL0 := Lib.hid (show Below w.heap.size w (w.alloc (.cells #[.string ⟨#[]⟩, .int .i64 1, .int .u64 0, .int .u32 0] 112)) by go_grown)
  clear hRI
  obtain ⟨W, hW⟩ : ∃ W, W = w.alloc (.cells #[.string ⟨#[]⟩, .int .i64 1, .int .u64 0, .int .u32 0] 112) := ⟨_, rfl⟩
  rw [← hW] at HO0 HL0 ⊢
  clear hW
  go_wp2_with fail
  go_loopw [3, 14] (fun v i wr => ∃ (j : Nat) (a : Option Addr) (y : Nat), i = .int .i64 j ∧ v = .slice a (j + 1) y ∧ j ≤ k ∧ Hid (wr.ownsRow w.heap.size 112 4 (.slice a (j + 1) y) (j + 1) (cellsC (tameCto l j))) ∧ Hid (Below w.heap.size w wr)) (fun _ i _ => k - (intOf i).toNat)
  case atStart => exact ⟨0, _, _, rfl, rfl, Nat.zero_le _, HO0, HL0⟩
  case round =>
    obtain ⟨j, a, y, rfl, rfl, hj, HO, HB⟩ := hrel
    have hj0 : (0 : Int) ≤ (j : Int) := Int.natCast_nonneg _
    by_cases hjk : j < k
    · have hj1 : (j : Int) < (k : Int) := by omega
      have hjl : j < l.length := by omega
      obtain ⟨b0, off, rfl, hb, t0, t1, t2, t3⟩ := HS.out.cells4C j hjl
      have q0 := (cell_below HB.out hb _).trans t0
      have q1 := (cell_below HB.out hb _).trans t1
      have q2 := (cell_below HB.out hb _).trans t2
      have q3 := (cell_below HB.out hb _).trans t3
      have hsb := HSL.out _ (List.getElem_mem hjl)
      have HCE := Lib.hid (show cellsC (tameCto l j) ++ [.string (S (UInt8.ofNat (4 * j + 4 + l[j].low.length % 4) :: l[j].low.take 10)), .int .i64 ((l[j].addr.toNat % 2147483648 : Nat) : Int), .int .u64 l[j].gen, .int .u32 l[j].sum] = cellsC (tameCto l (j + 1)) by rw [tameCto_succ l hjl, cellsC_snoc]; rfl)
      clear t0 t1 t2 t3
      generalize l[j] = ch at *
      obtain ⟨low, ad, ge, su⟩ := ch
      dsimp only at q0 q1 q2 q3 hsb HCE
      have hm10 : tmin (low.length : Int) 10 = ((min low.length 10 : Nat) : Int) := tmin_nat _ 10
      have hs10 := fun W => take_str low (min low.length 10) (Nat.min_le_left _ _) W
      rw [take_min] at hs10
      have h10b : min low.length 10 ≤ low.length := Nat.min_le_left _ _
      generalize min low.length 10 = m10 at *
      have hlw : (low.take 10).length ≤ 10 := by rw [List.length_take]; omega
      generalize low.take 10 = lw at *
      have hbm := bmax0_is ad
      generalize ad.toNat = an at *
      go_upto_region 5 with (fail)
      go_region
      rw [show UInt8.ofNat (4 * j + 4 + low.length % 4) = 4 * UInt8.ofNat j + 4 + UInt8.ofNat (low.length % 4) by simp] at HCE
      obtain ⟨wq, hwq⟩ : ∃ wq, wq = (((wr.alloc (.cells #[.string (S ((4 * UInt8.ofNat j + 4 + UInt8.ofNat (low.length % 4)) :: lw)), .int .i64 ad, .int .u64 ge, .int .u32 su] 112)).alloc (.cells #[.int .u8 (4 * (j : Int) + 4 + (low.length : Int) % 4)] 5)).drew) := ⟨_, rfl⟩
      have HK := Lib.hid (show wq.cell? ⟨wr.heap.size, 0, none⟩ = some (.string (S ((4 * UInt8.ofNat j + 4 + UInt8.ofNat (low.length % 4)) :: lw))) ∧ wq.cell? ⟨wr.heap.size, 1, none⟩ = some (.int .i64 ad) ∧ wq.cell? ⟨wr.heap.size, 2, none⟩ = some (.int .u64 ge) ∧ wq.cell? ⟨wr.heap.size, 3, none⟩ = some (.int .u32 su) ∧ ∀ o, wq.frozen? ⟨wr.heap.size, o, none⟩ = false by
        rw [hwq]
        refine ⟨cell_drew (cell_past _ ?_), cell_drew (cell_past _ ?_), cell_drew (cell_past _ ?_), cell_drew (cell_past _ ?_), fun o => by simp [go_sem]⟩ <;> (rw [World.cell?_alloc_at _ _ _ _ rfl]; rfl))
      have hXq : Below wr.heap.size wr wq := by rw [hwq]; exact below_drew' (((Below.refl _ _).alloc (Nat.le_refl _) _).alloc (by simp) _)
      rw [← hwq]
      have HO1 := Lib.hid (own_below HO.out hXq)
      have HB1 := Lib.hid (HB.out.trans (hXq.mono HB.out.size))
      have hwl := HB.out.size
      have HNE := Lib.hid (show ∀ g, (Value.slice a (j + 1) y).ownBlock = some g → g < wr.heap.size from fun g e => (HO.out.lt g e).2)
      have hzq : wr.heap.size < wq.heap.size := World.block_lt_of_cell? wq _ HK.out.1
      generalize (4 * UInt8.ofNat j + 4 + UInt8.ofNat (low.length % 4)) :: lw = hd at *
      clear hwq hXq HO HB q0 q1 q2 q3 hs10 hm10 hlw
      obtain ⟨k0, k1, k2, k3, kg⟩ := HK.out
      have kg1 := kg 1
      go_upto_region 7 with (fail)
      obtain ⟨W2, hW2⟩ : ∃ W2, W2 = wq.setCell ⟨wr.heap.size, 1, none⟩ (.int .i64 ((an : Int) % 2147483648)) := ⟨_, rfl⟩
      have HK2 := Lib.hid (show W2.cell? ⟨wr.heap.size, 0, none⟩ = some (.string (S hd)) ∧ W2.cell? ⟨wr.heap.size, 1, none⟩ = some (.int .i64 ((an : Int) % 2147483648)) ∧ W2.cell? ⟨wr.heap.size, 2, none⟩ = some (.int .u64 ge) ∧ W2.cell? ⟨wr.heap.size, 3, none⟩ = some (.int .u32 su) by
        rw [hW2]
        exact ⟨(World.cell?_setCell_other _ _ _ _ (addr_ne (by omega))).trans k0, World.cell?_setCell_same _ _ _ k1, (World.cell?_setCell_other _ _ _ _ (addr_ne (by omega))).trans k2, (World.cell?_setCell_other _ _ _ _ (addr_ne (by omega))).trans k3⟩)
      have HO2 := Lib.hid (show W2.ownsRow w.heap.size 112 4 (.slice a (j + 1) y) (j + 1) (cellsC (tameCto l j)) by
        rw [hW2]; exact ownsRow_setCell_other (a := ⟨wr.heap.size, 1, none⟩) HO1.out (fun e => Nat.lt_irrefl _ (HNE.out _ e)) _)
      have HB2 := Lib.hid (show Below w.heap.size w W2 by rw [hW2]; exact HB1.out.setCell (p := ⟨wr.heap.size, 1, none⟩) hwl _)
      rw [← hW2]
      clear hW2 HO1 HB1 k0 k1 k2 k3 kg kg1 HK
      obtain ⟨k0, k1, k2, k3⟩ := HK2.out
      have hz2 := HB2.out.size
      go_wp2_with (at_builtin; go_must (refine wpList_append_own_at _ rfl (.tmp 44) (.tmp 46) 22 rfl w.heap.size 112 i0 (.agg #[.string ByteArray.empty, .int .i64 0, .int .u64 0, .int .u32 0]) 4 40 Try.underlying22 hi iz0 iz1 iz2 rfl (by decide) _ (j + 1) _ rfl (HO2.out.alloc _) ⟨W2.heap.size, 0, none⟩ 1 1 [.string (S hd), .int .i64 ((an : Int) % 2147483648), .int .u64 ge, .int .u32 su] rfl rfl (cell_four_at _ _ rfl _ _ _ _ _) (kid_oneCell _ _ _ _) (by unfold maxLen; omega) (by omega) (by rw [World.size_alloc]; omega) ?_; intro vc wz hownvc hgrowvc _ _; rw [show (((an % 2147483648 : Nat)) : Int) = (an : Int) % 2147483648 by omega] at HCE; rw [HCE.out] at hownvc; obtain ⟨ac, yc, rfl⟩ := own_form hownvc; have HZ := Lib.hid hownvc; have HBz := Lib.hid (below_grown (HB2.out.alloc hz2 (.cells #[.string (S hd), .int .i64 ((an : Int) % 2147483648), .int .u64 ge, .int .u32 su] 112)) hgrowvc (fun k e => (HO2.out.lt k e).1) (by rw [World.size_alloc]; omega)); clear hownvc hgrowvc))
      exact ⟨⟨j + 1, ac, yc, by go_num, rfl, by omega, HZ, HBz⟩, by simp [intOf]; omega⟩
    · obtain rfl : j = k := by omega
      rw [show tameCto l j = tameC l by rw [← HM.out]; exact tameCto_all l] at HO
      have hlen : (tameC l).length = j + 1 := by rw [← tameCto_all, HM.out]; exact tameCto_len l hkx
      rw [← hlen] at HO
      go_wp2_with fail
      go_ret
      exact ⟨⟨a, y, by rw [hlen]; rfl, HO.out⟩, HB.out⟩

end Go.Proofs.Ytlmlmkeomlehmaa
