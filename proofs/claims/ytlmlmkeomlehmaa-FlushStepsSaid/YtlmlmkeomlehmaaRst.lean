/-
  The walk of the document's Step, and of same.
-/
import Derived.Test.YtlmlmkeomlehmaaOfa
import Derived.Test.YtlmlmkeomlehmaaFap
namespace Go.Proofs.Ytlmlmkeomlehmaa
open Go.RowKit
attribute [local go_sem ↓] Go.wp_at_zero Go.wp_at_succ

theorem topL_head (C : List Int) (k : Nat) (h : topL C 1 = [(k : Int)]) (h0 : 0 < C.length) : ∃ r, topL C C.length = (k : Int) :: r := by
  rw [topL_eq] at h ⊢
  obtain ⟨m, hm⟩ : ∃ m, C.length = m + 1 := ⟨C.length - 1, by omega⟩
  rw [hm]
  cases hl : (ordP C).map Prod.fst with
  | nil => rw [hl] at h; simp at h
  | cons x r =>
    rw [hl] at h
    simp at h
    exact ⟨r.take m, by rw [List.take_succ_cons, h]⟩
theorem filter_le2 {α : Type} (F : α → Bool) (l : List α) (j : Nat) : ((l.take j).filter F).length ≤ l.length := by
  have h1 := List.length_filter_le F (l.take j)
  have h2 := List.length_take_le j l
  rw [List.length_take] at h1
  omega
theorem filter_take2 {α : Type} (F : α → Bool) (l : List α) (j : Nat) (h : j < l.length) : (l.take (j + 1)).filter F = if F l[j] = true then (l.take j).filter F ++ [l[j]] else (l.take j).filter F := by
  rw [List.take_succ_eq_append_getElem h, List.filter_append]
  split
  · rename_i h1; rw [List.filter_cons_of_pos h1]; rfl
  · rename_i h1; rw [List.filter_cons_of_neg h1]; simp

set_option maxRecDepth 100000 in
set_option maxHeartbeats 4000000 in
theorem refStep_none (v : Value) (cs : List Chd) (us : List Upd) (w : World) (h : NodeAt w v cs us) (hl : cs.length ≤ 1000) (hu : us.length ≤ 1000) (k : Nat) (hk : topL (cntAt cs us) 1 = [(k : Int)]) (hkl : k < (cntAt cs us).length) (hc : (cntAt cs us)[k] < 1) :
    Calls Try.prog 33 #[v] w fun e w' => e = .returned (.tuple #[.int .i64 0, .slice none 0 0, .slice none 0 0, .bool false]) ∧ Below w.heap.size w w' := by
  obtain ⟨a, b, x, y, rfl, h1, h2⟩ := h
  have HN := Lib.hid (show NodeAt w (.agg #[.slice a cs.length x, .slice b us.length y]) cs us from ⟨a, b, x, y, rfl, h1, h2⟩)
  obtain ⟨r, hr⟩ := topL_head (cntAt cs us) k hk (by omega)
  have hz : (cntAt cs us)[k] = 0 := by have := (cntAt_le cs us k hkl).1; omega
  have HR := Lib.hid hr
  have HZ := Lib.hid hz
  clear h1 h2 hc hk hr hz
  go_enter Try.func33, Try.ntmps33
  go_wp2_with fail
  refine (thread (refCounts_any _ cs us _ (HN.out.kept (by go_grown) (Nat.le_refl _)) hl hu) w.heap.size w (by go_grown) (by go_grown)).mono ?_
  rintro e w1 ⟨⟨v1, rfl, hO⟩, hB1, -, -, hs1, hz1⟩
  obtain ⟨ao, c, rfl, hI, -, -⟩ := hO.form
  have HI := Lib.hid hI
  clear hO hI
  go_wp2_with fail
  refine (thread ((ref_order ao c (cntAt cs us) w1 HI.out (by rw [cntAt_len]; omega)).mono fun e w' ⟨v, he, ho, hb⟩ => (⟨⟨v, he, ho⟩, hb⟩ : (∃ v, e = .returned v ∧ Out w1.heap.size v (topL (cntAt cs us) (cntAt cs us).length) w') ∧ _)) w1.heap.size w1 (Below.refl _ _) (Nat.le_refl _)).mono ?_
  rintro e w2 ⟨⟨v2, rfl, hO⟩, hX2, -, -, -, hz2⟩
  rw [HR.out] at hO
  obtain ⟨ao2, c2, rfl, hI2, -, -⟩ := hO.form
  obtain ⟨b3, o3, rfl, hb3, hc3⟩ := hI2.at (by simp)
  have hc0 := hc3 0 (by simp) 0 _ rfl
  obtain ⟨b4, o4, rfl, hb4, hc4⟩ := (HI.out.kept hX2 (Nat.le_refl _)).at (by omega)
  have hck := hc4 k hkl 0 _ rfl
  have hB2 := hB1.trans (hX2.mono hz1)
  rw [HZ.out] at hck
  have hk0 : (0 : Int) ≤ (k : Int) := Int.natCast_nonneg _
  have hk1 : (k : Int) < ((cntAt cs us).length : Int) := by omega
  simp only [List.getElem_cons_zero, Nat.add_zero, Nat.mul_one] at hc0 hck
  have hne : ((r.length : Int) + 1 == 0) = false := by simp; omega
  clear hc3 hc4 hI2 hX2 hO
  go_wp2_with fail
  refine bodyPost_ret (v := .tuple #[.int .i64 0, .slice none 0 0, .slice none 0 0, .bool false]) ?_ rfl ⟨rfl, ?_⟩
  · simp [results, Try.results33, go_sem]
  · exact hB2

set_option maxRecDepth 100000 in
set_option maxHeartbeats 8000000 in
theorem refStep_some (v : Value) (cs : List Chd) (us : List Upd) (w : World) (h : NodeAt w v cs us) (hl : cs.length ≤ 1000) (hu : us.length ≤ 1000) (k : Nat) (hk : topL (cntAt cs us) 1 = [(k : Int)]) (hkl : k < (cntAt cs us).length) (hc : ¬ (cntAt cs us)[k] < 1) (F G : Upd → Bool) (hF : ∀ u, F u = decide (chOf cs u.key = (k : Int))) (hG : ∀ u, G u = !F u) :
    Calls Try.prog 33 #[v] w fun e w' => (∃ a1 y1 a2 y2, e = .returned (.tuple #[.int .i64 k, .slice a1 (us.filter F).length y1, .slice a2 (us.filter G).length y2, .bool true]) ∧ SlU w' (.slice a1 (us.filter F).length y1) (us.filter F) ∧ SlU w' (.slice a2 (us.filter G).length y2) (us.filter G)) ∧ Below w.heap.size w w' := by
  obtain ⟨i0, hi, iz0, iz1, iz2⟩ := info_parts infoV2
  obtain ⟨a, b, x, y, rfl, h1, h2⟩ := h
  have HN := Lib.hid (show NodeAt w (.agg #[.slice a cs.length x, .slice b us.length y]) cs us from ⟨a, b, x, y, rfl, h1, h2⟩)
  obtain ⟨r, hr⟩ := topL_head (cntAt cs us) k hk (by omega)
  have HR := Lib.hid hr
  have HF := Lib.hid hF
  have HG := Lib.hid hG
  clear h1 h2 hk hr hF hG
  go_enter Try.func33, Try.ntmps33
  go_wp2_with fail
  have hB0 := Below.refl w.heap.size w
  obtain ⟨W0, hW_W0⟩ : ∃ W0, W0 = (w.alloc (.cells #[.slice a cs.length x, .slice b us.length y] 35)) := ⟨_, rfl⟩
  rw [← hW_W0]
  have hX_W0 : Below w.heap.size w W0 := by rw [hW_W0]; go_grown
  have n0 : W0.cell? ⟨w.heap.size, 0, none⟩ = some (.slice a cs.length x) := by rw [hW_W0, World.cell?_alloc_at _ _ _ _ (by simp)]; rfl
  have n1 : W0.cell? ⟨w.heap.size, 1, none⟩ = some (.slice b us.length y) := by rw [hW_W0, World.cell?_alloc_at _ _ _ _ (by simp)]; rfl
  clear hW_W0
  have hz_W0 := hX_W0.size
  replace HN := Lib.hid (HN.out.kept hX_W0 (Nat.le_refl _))
  replace hB0 := hB0.trans (hX_W0.mono hB0.size)
  clear hX_W0
  refine (thread (refCounts_any _ cs us _ HN.out hl hu) W0.heap.size W0 (Below.refl _ _) (Nat.le_refl _)).mono ?_
  rintro e w1 ⟨⟨v1, rfl, hO⟩, hX1, -, -, hs1, hz1⟩
  obtain ⟨ao, c, rfl, hI, -, -⟩ := hO.form
  have HI := Lib.hid hI
  clear hO hI
  replace n0 := kept_cell hX1 n0
  replace n1 := kept_cell hX1 n1
  replace HN := Lib.hid (HN.out.kept hX1 (Nat.le_refl _))
  replace hB0 := hB0.trans (hX1.mono hB0.size)
  clear hX1
  go_wp2_with fail
  refine (thread ((ref_order ao c (cntAt cs us) w1 HI.out (by rw [cntAt_len]; omega)).mono fun e w' ⟨v, he, ho, hb⟩ => (⟨⟨v, he, ho⟩, hb⟩ : (∃ v, e = .returned v ∧ Out w1.heap.size v (topL (cntAt cs us) (cntAt cs us).length) w') ∧ _)) w1.heap.size w1 (Below.refl _ _) (Nat.le_refl _)).mono ?_
  rintro e w2 ⟨⟨v2, rfl, hO⟩, hX2, -, -, -, hz2⟩
  replace n0 := kept_cell hX2 n0
  replace n1 := kept_cell hX2 n1
  replace HN := Lib.hid (HN.out.kept hX2 (Nat.le_refl _))
  replace HI := Lib.hid (HI.out.kept hX2 (Nat.le_refl _))
  replace hB0 := hB0.trans (hX2.mono hB0.size)
  clear hX2
  rw [HR.out] at hO
  obtain ⟨ao2, c2, rfl, hI2, -, -⟩ := hO.form
  obtain ⟨b3, o3, rfl, hb3, hc3⟩ := hI2.at (by simp)
  have hc0 := hc3 0 (by simp) 0 _ rfl
  obtain ⟨b4, o4, rfl, hb4, hc4⟩ := HI.out.at (by omega)
  have hck := hc4 k hkl 0 _ rfl
  have hk0 : (0 : Int) ≤ (k : Int) := Int.natCast_nonneg _
  have hk1 : (k : Int) < ((cntAt cs us).length : Int) := by omega
  simp only [List.getElem_cons_zero, Nat.add_zero, Nat.mul_one] at hc0 hck
  have hne : ((r.length : Int) + 1 == 0) = false := by simp; omega
  have hz : ((cntAt cs us)[k] == 0) = false := by simp; omega
  have hr0 : (0 : Int) < (r.length : Int) + 1 := by omega
  clear hc3 hc4 hI2 hO HI
  generalize (cntAt cs us)[k] = cz at *
  go_wp2_with fail
  go_loopw [10, 8, 9] (fun i av bv wr => ∃ (j : Nat) (o p : List Upd), i = .int .i64 j ∧ j ≤ us.length ∧ Hid (o = (us.take j).filter F ∧ p = (us.take j).filter G) ∧ TwoR w2.heap.size 113 w2 wr av bv o.length p.length (cellsU o) (cellsU p)) (fun i _ _ _ => us.length - (intOf i).toNat)
  case atStart => exact ⟨0, [], [], rfl, Nat.zero_le _, Lib.hid ⟨rfl, rfl⟩, World.ownsRow_nil _ _ _ _, World.ownsRow_nil _ _ _ _, Below.refl _ _, Nat.le_refl _, fun k e => by simp [Value.ownBlock] at e⟩
  case round =>
    obtain ⟨j, o, p, rfl, hj, hop, hT⟩ := hrel
    have hj0 : (0 : Int) ≤ (j : Int) := Int.natCast_nonneg _
    obtain ⟨ov, oc, eo⟩ := own_form hT.own1
    subst eo
    obtain ⟨pv, pc, ep⟩ := own_form hT.own2
    subst ep
    have hol : o.length ≤ us.length := by rw [hop.out.1]; exact filter_le2 F us j
    have hpl : p.length ≤ us.length := by rw [hop.out.2]; exact filter_le2 G us j
    have hX := hT.below
    have HT := Lib.hid hT
    have d0 := kept_cell hX hc0
    have N0 := kept_cell hX n0
    have N1 := kept_cell hX n1
    have HNr := Lib.hid (HN.out.kept hX (Nat.le_refl _))
    clear hT hc0 hck n0 n1 HN hX
    by_cases hjl : j < us.length
    · have hj1 : (j : Int) < (us.length : Int) := by omega
      obtain ⟨bx, off, rfl, hb, q0, q1, q2, q3⟩ := HNr.out.parts.2.cells4 j hjl
      have HP1 := Lib.hid (filter_take2 F us j hjl)
      have HP2 := Lib.hid (filter_take2 G us j hjl)
      have HCH := Lib.hid (fun W h => refChild_any (.agg #[.slice a cs.length x, .slice (some ⟨bx, off, none⟩) us.length y]) cs us us[j].key W h hl)
      have HFx := HF.out us[j]
      have HGx := HG.out us[j]
      have hqr := chAt_lt cs us[j].key cs.length
      rw [show chAt cs us[j].key cs.length = chOf cs us[j].key from rfl] at hqr
      obtain ⟨hqr1, hqr2⟩ := hqr
      generalize us[j] = u at *
      have hq : ∀ q : Int, chOf cs u.key = q → F u = decide (q = (k : Int)) := fun q e => by rw [← e]; exact HFx
      have HQ := Lib.hid (hq _ rfl)
      clear hq HFx
      generalize chOf cs u.key = q at *
      go_wp2_with fail
      refine WQ.region (C := fun w' => Below wr.heap.size wr w') (by kernel_rfl) (by kernel_rfl) (below_drew' (Below.refl _ _)) ?_
      refine WQ.want (by rfl) (fun K hK => ?_)
      refine ⟨.agg #[.slice a cs.length x, .slice (some ⟨bx, off, none⟩) us.length y], fun w' hw' => ?_, hK _ ?_⟩
      · have hq' := hw'
        have z0 := kept_cell hw' N0; have z1 := kept_cell hw' N1; have z2 := kept_cell hw' q1; go_simp
      clear hK K
      (try simp only [Act.put, List.setIfInBounds_toArray, List.set_cons_zero, List.set_cons_succ])
      refine WQ.want (by rfl) (fun K hK => ?_)
      refine ⟨.pointer (some ⟨w.heap.size, 1, none⟩), fun w' hw' => ?_, hK _ ?_⟩
      · have hq' := hw'
        go_simp
      clear hK K
      (try simp only [Act.put, List.setIfInBounds_toArray, List.set_cons_zero, List.set_cons_succ])
      refine WQ.want (by rfl) (fun K hK => ?_)
      refine ⟨.slice (some ⟨bx, off, none⟩) us.length y, fun w' hw' => ?_, hK _ ?_⟩
      · have hq' := hw'
        have z0 := kept_cell hw' N0; have z1 := kept_cell hw' N1; have z2 := kept_cell hw' q1; go_simp
      clear hK K
      (try simp only [Act.put, List.setIfInBounds_toArray, List.set_cons_zero, List.set_cons_succ])
      refine WQ.want (by rfl) (fun K hK => ?_)
      refine ⟨.int .i64 j, fun w' hw' => ?_, hK _ ?_⟩
      · have hq' := hw'
        go_simp
      clear hK K
      (try simp only [Act.put, List.setIfInBounds_toArray, List.set_cons_zero, List.set_cons_succ])
      refine WQ.want (by rfl) (fun K hK => ?_)
      refine ⟨.pointer (some ⟨bx, off + j * 4, none⟩), fun w' hw' => ?_, hK _ ?_⟩
      · have hq' := hw'
        go_simp
      clear hK K
      (try simp only [Act.put, List.setIfInBounds_toArray, List.set_cons_zero, List.set_cons_succ])
      refine WQ.want (by rfl) (fun K hK => ?_)
      refine ⟨.pointer (some ⟨bx, off + j * 4 + 1, none⟩), fun w' hw' => ?_, hK _ ?_⟩
      · have hq' := hw'
        go_simp
      clear hK K
      (try simp only [Act.put, List.setIfInBounds_toArray, List.set_cons_zero, List.set_cons_succ])
      refine WQ.want (by rfl) (fun K hK => ?_)
      refine ⟨.string (S u.key), fun w' hw' => ?_, hK _ ?_⟩
      · have hq' := hw'
        have z0 := kept_cell hw' N0; have z1 := kept_cell hw' N1; have z2 := kept_cell hw' q1; go_simp
      clear hK K
      (try simp only [Act.put, List.setIfInBounds_toArray, List.set_cons_zero, List.set_cons_succ])
      refine WQ.want (by rfl) (fun K hK => ?_)
      refine ⟨.int .i64 q, fun w' hw' => ?_, hK _ ?_⟩
      · have hq' := hw'
        go_simp
        go_at_call 19
        refine (HCH.out _ (HNr.out.kept hq' (Nat.le_refl _))).mono ?_
        rintro e w6 ⟨he, hb6⟩
        exact ⟨he, hq'.trans (hb6.mono hq'.size)⟩
      clear hK K
      (try simp only [Act.put, List.setIfInBounds_toArray, List.set_cons_zero, List.set_cons_succ])
      refine WQ.want (by rfl) (fun K hK => ?_)
      refine ⟨.int .i64 q, fun w' hw' => ?_, hK _ ?_⟩
      · have hq' := hw'
        go_simp
      clear hK K
      (try simp only [Act.put, List.setIfInBounds_toArray, List.set_cons_zero, List.set_cons_succ])
      refine WQ.done ?_
      rintro w3 hX3
      have hz3 := hX3.size
      have HT1 := Lib.hid (HT.out.on hX3)
      have hT2 := HT1.out.below.size
      replace N0 := kept_cell hX3 N0
      replace N1 := kept_cell hX3 N1
      replace d0 := kept_cell hX3 d0
      replace q0 := kept_cell hX3 q0
      replace q1 := kept_cell hX3 q1
      replace q2 := kept_cell hX3 q2
      replace q3 := kept_cell hX3 q3
      replace HNr := Lib.hid (HNr.out.kept hX3 (Nat.le_refl _))
      clear hX3
      clear HT
      by_cases hqk : q = (k : Int)
      · have hFu : F u = true := by rw [HQ.out, decide_eq_true_iff]; exact hqk
        have hGu : G u = false := by rw [HGx, hFu]; rfl
        have HO1 := Lib.hid (show (us.take (j + 1)).filter F = o ++ [u] by rw [HP1.out, if_pos hFu, hop.out.1])
        have HO2 := Lib.hid (show (us.take (j + 1)).filter G = p by rw [HP2.out, if_neg (by rw [hGu]; simp), hop.out.2])
        clear hFu hGu HGx HP1 HP2 HQ
        subst hqk
        go_wp2_with (at_builtin; go_must (refine wpList_append_own_at _ rfl (.tmp 48) (.tmp 54) 33 rfl w2.heap.size 113 i0 (.agg #[.int .u8 0, .string ByteArray.empty, .string ByteArray.empty, .int .u64 0]) 4 48 Try.underlying33 hi iz0 iz1 iz2 rfl (by decide) _ o.length _ rfl (HT1.out.own1.alloc _) ⟨w3.heap.size, 0, none⟩ 1 1 [.int .u8 u.kind, .string (S u.key), .string (S u.val), .int .u64 u.delta] rfl rfl (cell_four_new _ _ _ _ _ _) (four_oneCell _ _ _ _) (by unfold maxLen; omega) (by omega) (by have := HT1.out.le; simp at this ⊢; omega) ?_; intro vz wz hownwz hgrowwz hzz hbz))
        go_wp2_with fail
        go_roundw
        (case rel => exact ⟨j + 1, o ++ [u], p, by go_num, by omega, Lib.hid ⟨HO1.out.symm, HO2.out.symm⟩, by rw [cellsU_snoc, List.length_append, List.length_singleton]; exact (HT1.out.on ((Below.refl _ _).alloc (Nat.le_refl _) _)).app hownwz hgrowwz hbz⟩)
        (case measure => first | (simp [intOf]; done) | (simp [intOf]; omega))
      · have hFu : F u = false := by rw [HQ.out, decide_eq_false_iff_not]; exact hqk
        have hGu : G u = true := by rw [HGx, hFu]; rfl
        have HO1 := Lib.hid (show (us.take (j + 1)).filter F = o by rw [HP1.out, if_neg (by rw [hFu]; simp), hop.out.1])
        have HO2 := Lib.hid (show (us.take (j + 1)).filter G = p ++ [u] by rw [HP2.out, if_pos hGu, hop.out.2])
        clear hFu hGu HGx HP1 HP2 HQ
        have hqk' : (q == (k : Int)) = false := by simpa using hqk
        clear hqk
        go_wp2_with (at_builtin; go_must (refine wpList_append_own_at _ rfl (.tmp 56) (.tmp 62) 33 rfl w2.heap.size 113 i0 (.agg #[.int .u8 0, .string ByteArray.empty, .string ByteArray.empty, .int .u64 0]) 4 48 Try.underlying33 hi iz0 iz1 iz2 rfl (by decide) _ p.length _ rfl (HT1.out.own2.alloc _) ⟨w3.heap.size, 0, none⟩ 1 1 [.int .u8 u.kind, .string (S u.key), .string (S u.val), .int .u64 u.delta] rfl rfl (cell_four_new _ _ _ _ _ _) (four_oneCell _ _ _ _) (by unfold maxLen; omega) (by omega) (by have := HT1.out.le; simp at this ⊢; omega) ?_; intro vz wz hownwz hgrowwz hzz hbz))
        go_wp2_with fail
        go_roundw
        (case rel => exact ⟨j + 1, o, p ++ [u], by go_num, by omega, Lib.hid ⟨HO1.out.symm, HO2.out.symm⟩, by rw [cellsU_snoc, List.length_append, List.length_singleton]; exact ((HT1.out.on ((Below.refl _ _).alloc (Nat.le_refl _) _)).symm.app hownwz hgrowwz hbz).symm⟩)
        (case measure => first | (simp [intOf]; done) | (simp [intOf]; omega))
    · obtain rfl : j = us.length := by omega
      have h1 := hop.out.1
      have h2 := hop.out.2
      rw [List.take_length] at h1 h2
      subst h1 h2
      have hBB := hB0.trans (HT.out.below.mono hB0.size)
      go_wp2_with fail
      refine bodyPost_ret (v := .tuple #[.int .i64 k, .slice ov (us.filter F).length oc, .slice pv (us.filter G).length pc, .bool true]) (by simp [results, Try.results33, go_sem]) rfl ⟨⟨ov, oc, pv, pc, rfl, (slU_row HT.out.own1).2, (slU_row HT.out.own2).2⟩, hBB⟩

end Go.Proofs.Ytlmlmkeomlehmaa
