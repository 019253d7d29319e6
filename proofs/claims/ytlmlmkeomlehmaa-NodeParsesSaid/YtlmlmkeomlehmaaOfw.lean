/-
  The walk of law 17's of.
-/
import Derived.Test.YtlmlmkeomlehmaaOfn
import Derived.StillTailTactics
namespace Go.Proofs.Ytlmlmkeomlehmaa
open Go.RowKit
attribute [local go_sem ↓] Go.wp_at_zero Go.wp_at_succ

theorem elemLC : Try.prog.elem 22 = 112 := by kernel_rfl
theorem underLC : Try.prog.underlying 22 = some (.slice (Try.prog.elem 22)) := by rw [elemLC]; exact Try.underlying22
theorem sizeElemLC (w : World) : (sizeOf (Try.prog.elem 22)).run Try.prog w = .ok 4 w := by kernel_rfl
theorem cut_LC (ao : Option Addr) (n c i : Nat) (hin : i ≤ n) (hnc : n ≤ c) (w : World) : (Instr.slice 22 (.slice ao n c) none (some (.int .i64 (i : Int))) none).run Try.prog w = .ok (.slice ao i c) w := by
  rw [run_slice_h w 22 ao n c underLC .i64 i (by omega) (by omega)]
  rw [sizeElemLC]
  have e : ao.map (·.add 0) = ao := by cases ao <;> simp [Addr.add]
  simp [Result.andThen, sliced, e]
theorem elemLU : Try.prog.elem 23 = 63 := by kernel_rfl
theorem underLU : Try.prog.underlying 23 = some (.slice (Try.prog.elem 23)) := by rw [elemLU]; exact Try.underlying23
theorem sizeElemLU (w : World) : (sizeOf (Try.prog.elem 23)).run Try.prog w = .ok 4 w := by kernel_rfl
theorem cut_LU (ao : Option Addr) (n c i : Nat) (hin : i ≤ n) (hnc : n ≤ c) (w : World) : (Instr.slice 23 (.slice ao n c) none (some (.int .i64 (i : Int))) none).run Try.prog w = .ok (.slice ao i c) w := by
  rw [run_slice_h w 23 ao n c underLU .i64 i (by omega) (by omega)]
  rw [sizeElemLU]
  have e : ao.map (·.add 0) = ao := by cases ao <;> simp [Addr.add]
  simp [Result.andThen, sliced, e]

/-- What of makes of a child, of an update. -/
def cut20 (c : Chd) : Chd := ⟨c.low.take 20, c.addr, c.gen, c.sum⟩
def upd17 (u : Upd) : Upd := ⟨1 + u.kind % 2, u.key.take 20, [], 0⟩
def ofC (l : List Chd) : List Chd := (l.take 20).map cut20
def ofCto (l : List Chd) (j : Nat) : List Chd := (l.take j).map cut20
def ofUs (m : List Upd) : List Upd := (m.take 10).map upd17
def ofUto (m : List Upd) (j : Nat) : List Upd := (m.take j).map upd17
theorem ofCto_succ (l : List Chd) {j : Nat} (h : j < l.length) : ofCto l (j + 1) = ofCto l j ++ [cut20 l[j]] := by
  unfold ofCto
  rw [List.take_succ_eq_append_getElem h, List.map_append]; rfl
theorem ofUto_succ (l : List Upd) {j : Nat} (h : j < l.length) : ofUto l (j + 1) = ofUto l j ++ [upd17 l[j]] := by
  unfold ofUto
  rw [List.take_succ_eq_append_getElem h, List.map_append]; rfl
theorem ofCto_all (l : List Chd) : ofCto l (min l.length 20) = ofC l := by
  unfold ofCto ofC
  by_cases h : l.length ≤ 20
  · rw [Nat.min_eq_left h, List.take_length, List.take_of_length_le h]
  · rw [Nat.min_eq_right (by omega)]
theorem ofUto_all (l : List Upd) : ofUto l (min l.length 10) = ofUs l := by
  unfold ofUto ofUs
  by_cases h : l.length ≤ 10
  · rw [Nat.min_eq_left h, List.take_length, List.take_of_length_le h]
  · rw [Nat.min_eq_right (by omega)]
theorem ofCto_len (l : List Chd) {j : Nat} (h : j ≤ l.length) : (ofCto l j).length = j := by unfold ofCto; rw [List.length_map, List.length_take]; omega
theorem ofUto_len (l : List Upd) (j : Nat) : (ofUto l j).length ≤ j := by unfold ofUto; rw [List.length_map, List.length_take]; omega
theorem upd17_wf (u : Upd) : (upd17 u).Wf := ⟨by show 1 + u.kind % 2 < 256; omega, by show (0 : Nat) < 18446744073709551616; decide⟩
theorem ofUto_ok (l : List Upd) (j : Nat) : ∀ x ∈ ofUto l j, x.Wf ∧ x.val.length ≤ 1000000 := by
  intro x hx
  obtain ⟨s, -, rfl⟩ := List.mem_map.1 hx
  exact ⟨upd17_wf s, by show ([] : List UInt8).length ≤ _; simp⟩

set_option maxRecDepth 100000 in
set_option maxHeartbeats 8000000 in
theorem of17_any (ao : Option Addr) (c : Nat) (l : List Chd) (bo : Option Addr) (d : Nat) (m : List Upd) (w : World) (hs : SlAt Chd.cells 4 w ao l) (hc : l.length ≤ c) (hm : SlAt Upd.cells 4 w bo m) (hd : m.length ≤ d)
    (hsl : ∀ x ∈ l, x.low.length ≤ 140737488355328) (hml : ∀ x ∈ m, x.Wf ∧ x.key.length ≤ 140737488355328) :
    Calls Try.prog 13 #[.slice ao l.length c, .slice bo m.length d] w fun e w' => (∃ va vb, e = .returned (.tuple #[va, vb]) ∧ NodeAt w' va (ofC l) (withAll (ofUs m)) ∧ NodeAt w' vb (ofC l) (withAll (ofUs m))) ∧ Below w.heap.size w w' := by
  obtain ⟨i0, hi, iz0, iz1, iz2⟩ := info_parts infoC
  obtain ⟨j0, ji, jz0, jz1, jz2⟩ := info_parts infoC2
  have hmin := fun ts t a b w => run_tmin (P := Try.prog) ts t a b w
  have hmm : tmin (l.length : Int) 20 = ((min l.length 20 : Nat) : Int) := tmin_nat _ 20
  generalize hM : min l.length 20 = k at *
  have hkx : k ≤ l.length := by omega
  have hk20 : k ≤ 20 := by omega
  have hcut := fun W => cut_LC ao l.length c k hkx hc W
  have HM := Lib.hid hM
  have HS := Lib.hid hs
  have HMU := Lib.hid hm
  have HSL := Lib.hid hsl
  have HML := Lib.hid hml
  clear hM hs hm hsl hml
  go_enter Try.func13, Try.ntmps13
  go_upto_region 3 with (fail)
  have HQ0 := Lib.hid (QC.start w)
  obtain ⟨W, hW⟩ : ∃ W, W = ((((w.alloc (.cells #[.slice none 0 0, .slice none 0 0] 31)).alloc (.cells #[.slice none 0 0, .slice none 0 0] 35)).alloc (.cells #[.slice none 0 0, .slice none 0 0] 31)).alloc (.cells #[.slice none 0 0, .slice none 0 0] 35)) := ⟨_, rfl⟩
  rw [← hW] at HQ0 ⊢
  clear hW
  go_wp2_with fail
  go_loopw [20] (fun i wr => ∃ (j : Nat) (a1 : Option Addr) (y1 : Nat) (a2 : Option Addr) (y2 : Nat), i = .int .i64 j ∧ j ≤ k ∧ Hid (QC w wr w.heap.size (.slice a1 j y1) (.slice none 0 0) (.slice a2 j y2) (.slice none 0 0)) ∧ Hid (wr.ownsRow (w.heap.size + 4) 100 4 (.slice a1 j y1) j (cellsC (ofCto l j))) ∧ Hid (wr.ownsRow (w.heap.size + 4) 50 4 (.slice a2 j y2) j (cellsC (ofCto l j)))) (fun i _ => k - (intOf i).toNat)
  case atStart => exact ⟨0, none, 0, none, 0, rfl, Nat.zero_le _, HQ0, Lib.hid (World.ownsRow_nil _ _ _ _), Lib.hid (World.ownsRow_nil _ _ _ _)⟩
  case round =>
    obtain ⟨j, a1, y1, a2, y2, rfl, hj, HQ, HO1, HO2⟩ := hrel
    have hj0 : (0 : Int) ≤ (j : Int) := Int.natCast_nonneg _
    by_cases hjk : j < k
    · have hj1 : (j : Int) < (k : Int) := by omega
      have hjl : j < l.length := by omega
      obtain ⟨b0, off, rfl, hb, t0, t1, t2, t3⟩ := HS.out.cells4C j hjl
      have q0 := (cell_below HQ.out.below hb _).trans t0
      have q1 := (cell_below HQ.out.below hb _).trans t1
      have q2 := (cell_below HQ.out.below hb _).trans t2
      have q3 := (cell_below HQ.out.below hb _).trans t3
      have hsb := HSL.out _ (List.getElem_mem hjl)
      have HCE := Lib.hid (show cellsC (ofCto l j) ++ [.string (S (l[j].low.take 20)), .int .i64 l[j].addr, .int .u64 l[j].gen, .int .u32 l[j].sum] = cellsC (ofCto l (j + 1)) by rw [ofCto_succ l hjl, cellsC_snoc]; rfl)
      clear t0 t1 t2 t3
      generalize l[j] = ch at *
      obtain ⟨low, ad, ge, su⟩ := ch
      dsimp only at q0 q1 q2 q3 hsb HCE
      have hm20 : tmin (low.length : Int) 20 = ((min low.length 20 : Nat) : Int) := tmin_nat _ 20
      have hs20 := fun W => take_str low (min low.length 20) (Nat.min_le_left _ _) W
      rw [take_min] at hs20
      have h20b : min low.length 20 ≤ low.length := Nat.min_le_left _ _
      generalize min low.length 20 = m20 at *
      generalize low.take 20 = lw at *
      go_upto_region 7 with (fail)
      have hX : Below wr.heap.size wr (wr.alloc (.cells #[.string (S lw), .int .i64 ad, .int .u64 ge, .int .u32 su] 112)) := by go_grown
      have HC := Lib.hid (show ∀ i v, [Value.string (S lw), .int .i64 ad, .int .u64 ge, .int .u32 su][i]? = some v → (wr.alloc (.cells #[.string (S lw), .int .i64 ad, .int .u64 ge, .int .u32 su] 112)).cell? ⟨wr.heap.size, i, none⟩ = some v from fun i v hv => by rw [World.cell?_alloc_at _ _ _ _ rfl]; simpa using hv)
      obtain ⟨w1, hw1⟩ : ∃ w1, w1 = wr.alloc (.cells #[.string (S lw), .int .i64 ad, .int .u64 ge, .int .u32 su] 112) := ⟨_, rfl⟩
      have hzw : wr.heap.size < w1.heap.size := by rw [hw1]; simp
      rw [← hw1] at hX HC ⊢
      clear hw1 q0 q1 q2 q3 hs20 hm20
      have HQ1 := Lib.hid (HQ.out.on hX)
      have hlq := HQ.out.lt
      have HLT1 := Lib.hid (show ∀ g, (Value.slice a1 j y1).ownBlock = some g → g < wr.heap.size from fun g e => (HO1.out.lt g e).2)
      have HLT2 := Lib.hid (show ∀ g, (Value.slice a2 j y2).ownBlock = some g → g < wr.heap.size from fun g e => (HO2.out.lt g e).2)
      have HP1 := Lib.hid (own_below HO1.out hX)
      have HP2 := Lib.hid (own_below HO2.out hX)
      clear HQ HO1 HO2 hX
      have z0 := HQ1.out.n0
      have k0 := HC.out 0 _ rfl
      have k1 := HC.out 1 _ rfl
      have k2 := HC.out 2 _ rfl
      have k3 := HC.out 3 _ rfl
      go_upto_region 8 with (at_builtin; go_must (refine wpList_append_own_at _ rfl (.tmp 33) (.tmp 44) 26 rfl (w.heap.size + 4) 100 i0 (.agg #[.string ByteArray.empty, .int .i64 0, .int .u64 0, .int .u32 0]) 4 40 Try.underlying26 hi iz0 iz1 iz2 rfl (by decide) _ j _ rfl (HP1.out.alloc _) ⟨w1.heap.size, 0, none⟩ 1 1 [.string (S lw), .int .i64 ad, .int .u64 ge, .int .u32 su] rfl rfl (cell_four_at _ _ rfl _ _ _ _ _) (kid_oneCell _ _ _ _) (by unfold maxLen; omega) (by omega) (by rw [World.size_alloc]; omega) ?_; intro va wa hownva hgrowva _ _; rw [HCE.out] at hownva; obtain ⟨ava, yva, rfl⟩ := own_form hownva; have hXA : Below w1.heap.size w1 (w1.alloc (.cells #[.string (S lw), .int .i64 ad, .int .u64 ge, .int .u32 su] 100)) := (by go_grown); have HQA := Lib.hid ((HQ1.out.on hXA).grown hgrowva (fun k e => (HP1.out.lt k e).1)); have za := HQA.out.n0; have zf := HQA.out.fz (w.heap.size + 1 + 1) 0 (by omega) (by omega); have HCA := Lib.hid (fun i v hv => hgrowva.cell (kept_cell hXA (HC.out i v hv)) (fun e => Nat.lt_irrefl _ (HLT1.out _ e.symm))); have HPA := Lib.hid hownva; have HPB := Lib.hid ((own_below HP2.out hXA).kept hgrowva (own_kinds (own_below HP2.out hXA) (own_below HP1.out hXA) (by decide))); clear hownva hgrowva hXA))
      obtain ⟨W2, hW2⟩ : ∃ W2, W2 = wa.setCell ⟨w.heap.size + 1 + 1, 0, none⟩ (.slice ava (j + 1) yva) := ⟨_, rfl⟩
      have HQ2 := Lib.hid (show QC w W2 w.heap.size _ _ _ _ by rw [hW2]; exact HQA.out.set1 (.slice ava (j + 1) yva))
      have HC2 := Lib.hid (show ∀ i v, [Value.string (S lw), .int .i64 ad, .int .u64 ge, .int .u32 su][i]? = some v → W2.cell? ⟨wr.heap.size, i, none⟩ = some v from fun i v hv => by rw [hW2, World.cell?_setCell_other _ _ _ _ (addr_ne (Or.inl (by omega)))]; exact HCA.out i v hv)
      have HP1' := Lib.hid (show W2.ownsRow (w.heap.size + 4) 100 4 (.slice ava (j + 1) yva) (j + 1) (cellsC (ofCto l (j + 1))) by rw [hW2]; exact own_low HPA.out (by omega) _)
      have HP2' := Lib.hid (show W2.ownsRow (w.heap.size + 4) 50 4 (.slice a2 j y2) j (cellsC (ofCto l j)) by rw [hW2]; exact own_low HPB.out (by omega) _)
      have hzz : wr.heap.size < W2.heap.size := World.block_lt_of_cell? W2 _ (HC2.out 0 _ rfl)
      rw [← hW2]
      clear hW2 HQA HCA HPA HPB HP1 HP2 HC k0 k1 k2 k3 z0 za zf HQ1 hzw HLT1
      have z0 := HQ2.out.x0
      have k0 := HC2.out 0 _ rfl
      have k1 := HC2.out 1 _ rfl
      have k2 := HC2.out 2 _ rfl
      have k3 := HC2.out 3 _ rfl
      have HLZ := Lib.hid (show ∀ W' : World, W'.ownsRow (w.heap.size + 4) 50 4 (.slice a2 j y2) j (cellsC (ofCto l j)) → True from fun _ _ => trivial)
      go_wp2_with (at_builtin; go_must (refine wpList_append_own_at _ rfl (.tmp 48) (.tmp 50) 32 rfl (w.heap.size + 4) 50 j0 (.agg #[.string ByteArray.empty, .int .i64 0, .int .u64 0, .int .u32 0]) 4 40 Try.underlying32 ji jz0 jz1 jz2 rfl (by decide) _ j _ rfl (HP2'.out.alloc _) ⟨W2.heap.size, 0, none⟩ 1 1 [.string (S lw), .int .i64 ad, .int .u64 ge, .int .u32 su] rfl rfl (cell_four_at _ _ rfl _ _ _ _ _) (kid_oneCell _ _ _ _) (by unfold maxLen; omega) (by omega) (by rw [World.size_alloc]; omega) ?_; intro va wb hownva hgrowva _ _; rw [HCE.out] at hownva; obtain ⟨avb, yvb, rfl⟩ := own_form hownva; have hXA : Below W2.heap.size W2 (W2.alloc (.cells #[.string (S lw), .int .i64 ad, .int .u64 ge, .int .u32 su] 50)) := (by go_grown); have HQB := Lib.hid ((HQ2.out.on hXA).grown hgrowva (fun k e => (HP2'.out.lt k e).1)); have za := HQB.out.x0; have zf := HQB.out.fz (w.heap.size + 1 + 1 + 1) 0 (by omega) (by omega); have HPB := Lib.hid hownva; have HPA := Lib.hid ((own_below HP1'.out hXA).kept hgrowva (own_kinds (own_below HP1'.out hXA) (own_below HP2'.out hXA) (by decide))); clear hownva hgrowva hXA))
      exact ⟨⟨j + 1, ava, yva, avb, yvb, by go_num, by omega, Lib.hid (HQB.out.set3 _), Lib.hid (own_low HPA.out (by omega) _), Lib.hid (own_low HPB.out (by omega) _)⟩, by simp [intOf]; omega⟩
    · obtain rfl : j = k := by omega
      rw [show ofCto l j = ofC l by rw [← HM.out]; exact ofCto_all l] at HO1 HO2
      have HCL := Lib.hid (show (ofC l).length = j by rw [← ofCto_all, HM.out]; exact ofCto_len l hkx)
      have hm10 : tmin (m.length : Int) 10 = ((min m.length 10 : Nat) : Int) := tmin_nat _ 10
      generalize hM2 : min m.length 10 = m2 at *
      have hmx2 : m2 ≤ m.length := by omega
      have hm22 : m2 ≤ 10 := by omega
      have hcut2 := fun W => cut_LU bo m.length d m2 hmx2 hd W
      have HM2 := Lib.hid hM2
      clear hM2 hcut hmm hi iz0 iz1 iz2 ji jz0 jz1 jz2
      go_wp2_with fail
      go_loopw [60] (fun i wr => ∃ (t : Nat) (x : Option Addr) (y : Nat), i = .int .i64 t ∧ t ≤ m2 ∧ Hid (QC w wr w.heap.size (.slice a1 j y1) (.slice x (withAll (ofUto m t)).length y) (.slice a2 j y2) (.slice none 0 0)) ∧ Hid (wr.ownsRow (w.heap.size + 4) 100 4 (.slice a1 j y1) j (cellsC (ofC l))) ∧ Hid (wr.ownsRow (w.heap.size + 4) 50 4 (.slice a2 j y2) j (cellsC (ofC l))) ∧ Hid (wr.ownsRow (w.heap.size + 4) 67 4 (.slice x (withAll (ofUto m t)).length y) (withAll (ofUto m t)).length (cellsU (withAll (ofUto m t))))) (fun i _ => m2 - (intOf i).toNat)
      case atStart => exact ⟨0, none, 0, rfl, Nat.zero_le _, HQ, HO1, HO2, Lib.hid (World.ownsRow_nil _ _ _ _)⟩
      case round =>
        obtain ⟨t, x, y, rfl, ht, HQ, HO1, HO2, HBU⟩ := hrel
        have ht0 : (0 : Int) ≤ (t : Int) := Int.natCast_nonneg _
        by_cases htm : t < m2
        · have ht1 : (t : Int) < (m2 : Int) := by omega
          have htl : t < m.length := by omega
          obtain ⟨b0, off, rfl, hb, t0, t1, t2, t3⟩ := SlAt.cells4 HMU.out t htl
          have q0 := (cell_below HQ.out.below hb _).trans t0
          have q1 := (cell_below HQ.out.below hb _).trans t1
          have q2 := (cell_below HQ.out.below hb _).trans t2
          have q3 := (cell_below HQ.out.below hb _).trans t3
          have hsb := HML.out _ (List.getElem_mem htl)
          have HUS := Lib.hid (ofUto_succ m htl)
          have hwn := fun W h => withOwn_next x _ y (ofUto m t) (upd17 m[t]) W rfl h (Nat.le_trans (ofUto_len m t) (by omega)) (ofUto_ok m t) (upd17_wf _)
          rw [← HUS.out] at hwn
          clear t0 t1 t2 t3
          generalize hU : withAll (ofUto m t) = U at *
          generalize hV : withAll (ofUto m (t + 1)) = V at *
          have HV := Lib.hid hV
          clear hU hV
          generalize m[t] = u at *
          obtain ⟨kd, key, val, dl⟩ := u
          dsimp only [upd17] at q0 q1 q2 q3 hsb hwn
          have hm20 : tmin (key.length : Int) 20 = ((min key.length 20 : Nat) : Int) := tmin_nat _ 20
          have hs20 := fun W => take_str key (min key.length 20) (Nat.min_le_left _ _) W
          rw [take_min] at hs20
          have h20b : min key.length 20 ≤ key.length := Nat.min_le_left _ _
          generalize min key.length 20 = m20 at *
          generalize key.take 20 = lw at *
          have hkd : kd < 256 := hsb.1.1
          have hw8 : IntKind.u8.wrap (1 + (kd : Int) % 2) = 1 + (kd : Int) % 2 := by rw [IntKind.wrap_u8]; omega
          have HW := Lib.hid hwn
          clear hwn
          have p1 := HQ.out.n1
          have pf := HQ.out.fz (w.heap.size + 1 + 1) 1 (by omega) (by omega)
          have hpl : w.heap.size + 1 + 1 < wr.heap.size := by have := HQ.out.lt; omega
          rw [show (((1 + kd % 2 : Nat)) : Int) = IntKind.u8.wrap (1 + (kd : Int).tmod 2) by rw [Int.tmod_eq_emod_of_nonneg (by omega), hw8]; omega] at HW
          go_upto_region 13 with (fail)
          have hX : Below wr.heap.size wr (wr.alloc (.cells #[.int .u8 kd, .string (S key), .string (S val), .int .u64 dl] 63)) := by go_grown
          have k0 : (wr.alloc (.cells #[.int .u8 kd, .string (S key), .string (S val), .int .u64 dl] 63)).cell? ⟨wr.heap.size, 0, none⟩ = some (.int .u8 kd) := by rw [World.cell?_alloc_at _ _ _ _ rfl]; rfl
          have k1 : (wr.alloc (.cells #[.int .u8 kd, .string (S key), .string (S val), .int .u64 dl] 63)).cell? ⟨wr.heap.size, 1, none⟩ = some (.string (S key)) := by rw [World.cell?_alloc_at _ _ _ _ rfl]; rfl
          obtain ⟨w1, hw1⟩ : ∃ w1, w1 = wr.alloc (.cells #[.int .u8 kd, .string (S key), .string (S val), .int .u64 dl] 63) := ⟨_, rfl⟩
          rw [← hw1] at hX k0 k1 ⊢
          clear hw1
          have HXl := Lib.hid hX
          have n1 := kept_cell hX p1
          have nf := ((bcell hX).2 (w.heap.size + 1 + 1) 1 hpl).trans pf
          clear hX p1 pf
          have m0 := cell_drew n1
          have m1 := cell_drew k0
          have m2 := cell_drew k1
          go_still_tail 14, (by kernel_rfl)
          change wpList _ _ _ _ _ w1.drew
          have HXd := Lib.hid (below_drew' HXl.out)
          have HN1 := Lib.hid m0
          generalize w1.drew = wd at *
          clear n1 k0 k1 nf m0 m1 m2 HXl
          rw [show IntKind.u8.wrap (1 + (kd : Int).tmod 2) = 1 + (kd : Int) % 2 by rw [Int.tmod_eq_emod_of_nonneg (by omega), hw8]] at HW
          go_wp2_with fail
          refine (HW.out wd ((BoxU.of_own HBU.out).kept HXd.out (Nat.le_refl _))).mono ?_
          rintro e w3 ⟨⟨a', c', rfl, hb'⟩, hbl⟩
          have hXl := HXd.out.trans (hbl.mono HXd.out.size)
          have z1 := kept_cell hbl HN1.out
          have z2 := ((bcell hXl).2 (w.heap.size + 1 + 1) 1 hpl).trans (HQ.out.fz _ 1 (by omega) (by omega))
          have HQ3 := Lib.hid (HQ.out.on hXl)
          have HP1 := Lib.hid (own_below HO1.out hXl)
          have HP2 := Lib.hid (own_below HO2.out hXl)
          have HB3 := Lib.hid (own_base hb' (show (w.heap.size + 4) ≤ _ by have := HQ.out.lt; have := HXd.out.size; omega))
          clear hbl hXl hb' HW HXd HN1
          go_wp2_with fail
          exact ⟨⟨t + 1, a', c', by go_num, by omega, Lib.hid (by rw [HV.out]; exact HQ3.out.set2 _), Lib.hid (own_low HP1.out (by omega) _), Lib.hid (own_low HP2.out (by omega) _), Lib.hid (by rw [HV.out]; exact own_low HB3.out (by omega) _)⟩, by simp [intOf]; omega⟩
        · obtain rfl : t = m2 := by omega
          have hun : withAll (ofUto m t) = withAll (ofUs m) := by rw [← HM2.out, ofUto_all]
          have huk : ∀ u ∈ withAll (ofUs m), u.delta = 0 ∧ u.Wf := fun u hu => by
            have h := withAll_puts (ofUs m) (fun u hu => by obtain ⟨s, -, rfl⟩ := List.mem_map.1 hu; show 1 + s.kind % 2 ≠ 3; omega) (fun u hu => by obtain ⟨s, -, rfl⟩ := List.mem_map.1 hu; exact ⟨upd17_wf s, by show ([] : List UInt8).length ≤ _; simp⟩) u hu
            obtain ⟨s, -, rfl⟩ := List.mem_map.1 h
            exact ⟨rfl, upd17_wf s⟩
          have hul : (withAll (ofUs m)).length ≤ 10 := by
            have h := (withAll_ok (ofUto m t) (ofUto_ok m t)).2.2
            rw [hun] at h
            have := ofUto_len m t
            omega
          rw [hun] at HQ HBU
          generalize hUe : withAll (ofUs m) = U at *
          have HUE := Lib.hid hUe
          clear hUe
          have HUK := Lib.hid huk
          have p1 := HQ.out.n1
          have hlB := HQ.out.lt
          clear hun huk hcut2 hm10
          go_wp2_with fail
          refine (listU _ U _ (BoxU.of_own HBU.out) (by omega)).mono ?_
          rintro e w3 ⟨⟨v3, rfl, ho3⟩, hX3⟩
          obtain ⟨al, cl, rfl⟩ := own_form ho3
          have HQ3 := Lib.hid (HQ.out.on hX3)
          have HP1 := Lib.hid (own_below HO1.out hX3)
          have HP2 := Lib.hid (own_below HO2.out hX3)
          have HB3 := Lib.hid (own_below HBU.out hX3)
          have HLt := Lib.hid (fun g (e : (Value.slice al U.length cl).ownBlock = some g) => (ho3.lt g e).2)
          have HL3 := Lib.hid (own_base ho3 (show (w.heap.size + 4) ≤ _ by omega))
          have hzz := HQ3.out.lt
          obtain ⟨BL, hBL⟩ : ∃ BL, BL = w3.heap.size := ⟨_, rfl⟩
          rw [← hBL] at HLt hzz
          have HBL := Lib.hid (show BL ≤ w3.heap.size by omega)
          clear ho3 hX3 p1 HQ HO1 HO2 HBU hBL
          obtain ⟨v0, vi, vz0, vz1, vz2⟩ := info_parts infoV2
          go_wp2_with fail
          go_loopw [85] (fun i wr => ∃ (q : Nat) (a3 : Option Addr) (y3 : Nat), i = .int .i64 q ∧ q ≤ U.length ∧ Hid (QC w wr w.heap.size (.slice a1 j y1) (.slice x U.length y) (.slice a2 j y2) (.slice a3 q y3)) ∧ Hid (wr.ownsRow (w.heap.size + 4) 100 4 (.slice a1 j y1) j (cellsC (ofC l))) ∧ Hid (wr.ownsRow (w.heap.size + 4) 50 4 (.slice a2 j y2) j (cellsC (ofC l))) ∧ Hid (wr.ownsRow (w.heap.size + 4) 67 4 (.slice x U.length y) U.length (cellsU U)) ∧ Hid (wr.ownsRow (w.heap.size + 4) 67 4 (.slice al U.length cl) U.length (cellsU U)) ∧ Hid (wr.ownsRow BL 113 4 (.slice a3 q y3) q (cellsU (U.take q))) ∧ Hid (BL ≤ wr.heap.size)) (fun i _ => U.length - (intOf i).toNat)
          case atStart => exact ⟨0, none, 0, rfl, Nat.zero_le _, HQ3, HP1, HP2, HB3, HL3, Lib.hid (World.ownsRow_nil _ _ _ _), HBL⟩
          case round =>
            obtain ⟨q, a3, y3, rfl, hq, HQ, HO1, HO2, HB, HL, HX, HBL⟩ := hrel
            have hq0 : (0 : Int) ≤ (q : Int) := Int.natCast_nonneg _
            have hlw := HQ.out.lt
            by_cases hql : q < U.length
            · have hq1 : (q : Int) < (U.length : Int) := by omega
              obtain ⟨b0, off, rfl, hb, q0, q1, q2, q3⟩ := (slU_row HL.out).2.cells4 q hql
              have HT := Lib.hid (show cellsU (U.take q) ++ [.int .u8 U[q].kind, .string (S U[q].key), .string (S U[q].val), .int .u64 U[q].delta] = cellsU (U.take (q + 1)) by
                rw [List.take_succ_eq_append_getElem hql, cellsU_snoc])
              generalize U[q] = u at *
              go_upto_region 18 with (fail)
              obtain ⟨w4, hw4⟩ : ∃ w4, w4 = wr.alloc (.cells #[.int .u8 u.kind, .string (S u.key), .string (S u.val), .int .u64 u.delta] 67) := ⟨_, rfl⟩
              have hX4 : Below wr.heap.size wr w4 := by rw [hw4]; go_grown
              have HK := Lib.hid (show ∀ i v, [Value.int .u8 u.kind, .string (S u.key), .string (S u.val), .int .u64 u.delta][i]? = some v → w4.cell? ⟨wr.heap.size, i, none⟩ = some v from fun i v hv => by rw [hw4, World.cell?_alloc_at _ _ _ _ rfl]; simpa using hv)
              rw [← hw4]
              have HQ4 := Lib.hid (HQ.out.on hX4)
              have HP1 := Lib.hid (own_below HO1.out hX4)
              have HP2 := Lib.hid (own_below HO2.out hX4)
              have HB4 := Lib.hid (own_below HB.out hX4)
              have HL4 := Lib.hid (own_below HL.out hX4)
              have HX4 := Lib.hid (own_below HX.out hX4)
              have HBL4 := Lib.hid (Nat.le_trans HBL.out hX4.size)
              have hlw4 := HQ4.out.lt
              clear hw4 hX4 q0 q1 q2 q3 HQ HO1 HO2 HB HL HX HBL hlw
              have c1 := HQ4.out.x1
              have k0 := HK.out 0 _ rfl
              have k1 := HK.out 1 _ rfl
              have k2 := HK.out 2 _ rfl
              have k3 := HK.out 3 _ rfl
              go_wp2_with (at_builtin; go_must (refine wpList_append_own_at _ rfl (.tmp 90) (.tmp 100) 33 rfl BL 113 v0 (.agg #[.int .u8 0, .string ByteArray.empty, .string ByteArray.empty, .int .u64 0]) 4 48 Try.underlying33 vi vz0 vz1 vz2 rfl (by decide) _ q _ rfl (HX4.out.alloc _) ⟨w4.heap.size, 0, none⟩ 1 1 [.int .u8 u.kind, .string (S u.key), .string (S u.val), .int .u64 u.delta] rfl rfl (cell_four_at _ _ rfl _ _ _ _ _) (four_oneCell _ _ _ _) (by unfold maxLen; omega) (by omega) (by have := HBL4.out; rw [World.size_alloc]; omega) ?_; intro vc wz hownvc hgrowvc _ _; rw [HT.out] at hownvc; obtain ⟨ac, yc, rfl⟩ := own_form hownvc; have hXA : Below w4.heap.size w4 (w4.alloc (.cells #[.int .u8 u.kind, .string (S u.key), .string (S u.val), .int .u64 u.delta] 113)) := (by go_grown); have HQz := Lib.hid ((HQ4.out.on hXA).grown hgrowvc (fun k e => by have := (HX4.out.lt k e).1; omega)); have za := HQz.out.x1; have zf := HQz.out.fz (w.heap.size + 1 + 1 + 1) 1 (by omega) (by omega); have HPa := Lib.hid ((own_below HP1.out hXA).kept hgrowvc (own_kinds (own_below HP1.out hXA) (own_below HX4.out hXA) (by decide))); have HPb := Lib.hid ((own_below HP2.out hXA).kept hgrowvc (own_kinds (own_below HP2.out hXA) (own_below HX4.out hXA) (by decide))); have HBz := Lib.hid ((own_below HB4.out hXA).kept hgrowvc (own_kinds (own_below HB4.out hXA) (own_below HX4.out hXA) (by decide))); have HLz := Lib.hid ((own_below HL4.out hXA).kept hgrowvc (own_kinds (own_below HL4.out hXA) (own_below HX4.out hXA) (by decide))); have HXz := Lib.hid hownvc; have HBLz := Lib.hid (show BL ≤ wz.heap.size from Nat.le_trans HBL4.out (Nat.le_trans hXA.size hgrowvc.size)); clear hownvc hgrowvc hXA))
              exact ⟨⟨q + 1, ac, yc, by go_num, by omega, Lib.hid (HQz.out.set4 _), Lib.hid (own_low HPa.out (by omega) _), Lib.hid (own_low HPb.out (by omega) _), Lib.hid (own_low HBz.out (by omega) _), Lib.hid (own_low HLz.out (by omega) _), Lib.hid (own_low HXz.out (by omega) _), Lib.hid (by rw [World.size_setCell]; exact HBLz.out)⟩, by simp [intOf]; omega⟩
            · obtain rfl : q = U.length := by omega
              rw [List.take_length] at HX
              have HXb := Lib.hid (own_base HX.out (show w.heap.size + 4 ≤ BL by omega))
              obtain ⟨r0, r1⟩ := HQ.out.rc w.heap.size (Or.inl rfl)
              obtain ⟨r2, r3⟩ := HQ.out.rc (w.heap.size + 1) (Or.inr rfl)
              have n0 := HQ.out.n0
              have n1 := HQ.out.n1
              have x0 := HQ.out.x0
              have x1 := HQ.out.x1
              have f0 := HQ.out.fz w.heap.size 0 (by omega) (by omega)
              have f1 := HQ.out.fz w.heap.size 1 (by omega) (by omega)
              have f2 := HQ.out.fz (w.heap.size + 1) 0 (by omega) (by omega)
              have f3 := HQ.out.fz (w.heap.size + 1) 1 (by omega) (by omega)
              go_upto_region 20 with (fail)
              go_region
              all_goals
                go_wp2_with fail
                obtain ⟨Z, hZ⟩ : ∃ Z, Z = (((wr.setCell ⟨w.heap.size, 0, none⟩ (.slice a1 j y1)).setCell ⟨w.heap.size, 1, none⟩ (.slice x U.length y)).setCell ⟨w.heap.size + 1, 0, none⟩ (.slice a2 j y2)).setCell ⟨w.heap.size + 1, 1, none⟩ (.slice a3 U.length y3) := ⟨_, rfl⟩
                have low : ∀ {B k n : Nat} {E : TypeId} {v : Value} {xs : List Value}, w.heap.size + 4 ≤ B → wr.ownsRow B E k v n xs → Z.ownsRow B E k v n xs := fun hB h => by
                  rw [hZ]; exact own_low (own_low (own_low (own_low h (by omega) _) (by omega) _) (by omega) _) (by omega) _
                have HZB : Below w.heap.size w Z := by
                  rw [hZ]; exact (((HQ.out.below.setCell (p := ⟨w.heap.size, 0, none⟩) (Nat.le_refl _) _).setCell (p := ⟨w.heap.size, 1, none⟩) (Nat.le_refl _) _).setCell (p := ⟨w.heap.size + 1, 0, none⟩) (by show w.heap.size ≤ w.heap.size + 1; omega) _).setCell (p := ⟨w.heap.size + 1, 1, none⟩) (by show w.heap.size ≤ w.heap.size + 1; omega) _
                have t0 : Z.cell? ⟨w.heap.size, 0, none⟩ = some (.slice a1 j y1) := by
                  rw [hZ, World.cell?_setCell_other _ _ _ _ (addr_ne (by omega)), World.cell?_setCell_other _ _ _ _ (addr_ne (by omega)), World.cell?_setCell_other _ _ _ _ (addr_ne (by omega))]; exact World.cell?_setCell_same _ _ _ r0
                have t1 : Z.cell? ⟨w.heap.size, 1, none⟩ = some (.slice x U.length y) := by
                  rw [hZ, World.cell?_setCell_other _ _ _ _ (addr_ne (by omega)), World.cell?_setCell_other _ _ _ _ (addr_ne (by omega))]; exact World.cell?_setCell_same _ _ _ ((World.cell?_setCell_other _ _ _ _ (addr_ne (by omega))).trans r1)
                have t2 : Z.cell? ⟨w.heap.size + 1, 0, none⟩ = some (.slice a2 j y2) := by
                  rw [hZ, World.cell?_setCell_other _ _ _ _ (addr_ne (by omega))]; exact World.cell?_setCell_same _ _ _ ((World.cell?_setCell_other _ _ _ _ (addr_ne (by omega))).trans ((World.cell?_setCell_other _ _ _ _ (addr_ne (by omega))).trans r2))
                have t3 : Z.cell? ⟨w.heap.size + 1, 1, none⟩ = some (.slice a3 U.length y3) := by
                  rw [hZ]; exact World.cell?_setCell_same _ _ _ ((World.cell?_setCell_other _ _ _ _ (addr_ne (by omega))).trans ((World.cell?_setCell_other _ _ _ _ (addr_ne (by omega))).trans ((World.cell?_setCell_other _ _ _ _ (addr_ne (by omega))).trans r3)))
                have hC := (slC_row (low (Nat.le_refl _) HO1.out)).2
                have hD := (slC_row (low (Nat.le_refl _) HO2.out)).2
                have hI := (slU_row (low (Nat.le_refl _) HB.out)).2
                have hJ := (slU_row (low (Nat.le_refl _) HXb.out)).2
                rw [← hZ]
                clear hZ low
                refine bodyPost_ret (v := .tuple #[.agg #[.slice a1 j y1, .slice x U.length y], .agg #[.slice a2 j y2, .slice a3 U.length y3]]) ?_ rfl ⟨⟨.agg #[.slice a1 j y1, .slice x U.length y], .agg #[.slice a2 j y2, .slice a3 U.length y3], rfl, ?_, ?_⟩, below_drew' HZB⟩
                · simp [results, Try.results13, go_sem, t0, t1, t2, t3]
                · rw [HUE.out]; exact (NodeAt.mk' hC hI).kept (below_drew' (Below.refl _ _)) (Nat.le_refl _)
                · rw [HUE.out]; exact (NodeAt.mk' hD hJ).kept (below_drew' (Below.refl _ _)) (Nat.le_refl _)

end Go.Proofs.Ytlmlmkeomlehmaa
