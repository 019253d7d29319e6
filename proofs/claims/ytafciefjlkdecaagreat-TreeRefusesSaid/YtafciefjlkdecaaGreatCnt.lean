/-
  The walks of flush.Counts, and of the document's Counts.
-/
import Derived.Test.YtafciefjlkdecaaGreatFux
namespace Go.Proofs.YtafciefjlkdecaaGreat
open Go.RowKit
attribute [local go_sem ↓] Go.wp_at_zero Go.wp_at_succ

/-- How many of the first ones of updates wait for each child. -/
def cntAt (cs : List Chd) (us : List Upd) : List Int := (List.range cs.length).map fun (i : Nat) => ((us.filter fun u => chOf cs u.key = (i : Int)).length : Int)
theorem cntAt_len (cs : List Chd) (us : List Upd) : (cntAt cs us).length = cs.length := by simp [cntAt]
theorem cntAt_get (cs : List Chd) (us : List Upd) (i : Nat) (hi : i < (cntAt cs us).length) : (cntAt cs us)[i] = ((us.filter fun u => chOf cs u.key = (i : Int)).length : Int) := by simp [cntAt]
theorem cntAt_nil (cs : List Chd) : cntAt cs [] = List.replicate cs.length 0 := by
  apply List.ext_getElem
  · simp [cntAt]
  · intro i h1 h2; simp [cntAt]
theorem cntAt_none {cs : List Chd} {us : List Upd} {u : Upd} (h : chOf cs u.key < 0) : cntAt cs (us ++ [u]) = cntAt cs us := by
  apply List.ext_getElem
  · simp [cntAt]
  · intro i h1 h2
    rw [cntAt_get, cntAt_get, List.filter_append, List.filter_cons_of_neg (by simp; omega)]
    simp
theorem cntAt_some {cs : List Chd} {us : List Upd} {u : Upd} {k : Nat} (h : chOf cs u.key = k) (hk : k < (cntAt cs us).length) : cntAt cs (us ++ [u]) = (cntAt cs us).set k ((cntAt cs us)[k] + 1) := by
  apply List.ext_getElem
  · simp [cntAt]
  · intro i h1 h2
    rw [cntAt_get, List.getElem_set]
    by_cases e : k = i
    · subst e
      rw [if_pos rfl, cntAt_get, List.filter_append, List.filter_cons_of_pos (by simpa using h)]
      simp
    · rw [if_neg e, cntAt_get, List.filter_append, List.filter_cons_of_neg (by simp; omega)]
      simp
theorem cntAt_le (cs : List Chd) (us : List Upd) (i : Nat) (hi : i < (cntAt cs us).length) : 0 ≤ (cntAt cs us)[i] ∧ (cntAt cs us)[i] ≤ us.length := by
  rw [cntAt_get]
  exact ⟨by omega, by have := List.length_filter_le (fun u : Upd => decide (chOf cs u.key = (i : Int))) us; omega⟩

theorem intsV_len (l : List Int) : (intsV l).length = l.length := by simp [intsV]
theorem made_zero (n : Nat) : (madeCells (Value.int .i64 0).cells (n * 1)).toList = intsV (List.replicate n 0) := by
  rw [Nat.mul_one]
  apply List.ext_getElem
  · simp [madeCells, intsV]
  · intro i h1 h2
    simp [madeCells, intsV, Value.cells, Nat.mod_one]
theorem intsV_set (l : List Int) (k : Nat) (x : Int) : (intsV l).set k (.int .i64 x) = intsV (l.set k x) := by simp [intsV, List.map_set]
theorem take_succ_u (us : List Upd) (j : Nat) (h : j < us.length) : us.take (j + 1) = us.take j ++ [us[j]] := List.take_succ_eq_append_getElem h

set_option maxRecDepth 100000 in
set_option maxHeartbeats 4000000 in
theorem counts_any (v : Value) (cs : List Chd) (us : List Upd) (w : World) (h : NodeAt w v cs us) (hl : cs.length ≤ 1000) (hu : us.length ≤ 1000) :
    Calls Tryz.prog 126 #[v] w fun e w' => (∃ v', e = .returned v' ∧ Out w.heap.size v' (cntAt cs us) w') ∧ Below w.heap.size w w' := by
  obtain ⟨i0, hi, iz0, iz1, iz2⟩ := info_parts int_info
  obtain ⟨a, b, x, y, rfl, h1, h2⟩ := h
  have HN := Lib.hid (show NodeAt w (.agg #[.slice a cs.length x, .slice b us.length y]) cs us from ⟨a, b, x, y, rfl, h1, h2⟩)
  have HU := Lib.hid h2
  clear h1 h2
  go_enter Tryz.func126, Tryz.ntmps126
  go_wp2_with (at_make; refine wpList_make_full _ rfl _ _ 55 rfl (w.heap.size + 1) 3 i0 (.int .i64 0) 1 Tryz.underlying55 hi iz0 iz1 .i64 .i64 _ _ cs.length rfl rfl rfl rfl (by rw [iz2]; omega) (by unfold maxLen; omega) (by simp) ?_; intro w1 hown1 hg1; have p0 : w1.cell? ⟨w.heap.size, 0, none⟩ = some (.slice a cs.length x) := hg1.cell (by simp) (by simp); have p1 : w1.cell? ⟨w.heap.size, 1, none⟩ = some (.slice b us.length y) := hg1.cell (by simp) (by simp))
  rw [made_zero, ← cntAt_nil, World.size_alloc] at hown1
  have hsz1 : w.heap.size + 1 ≤ w1.heap.size := by have := hg1.size; simp at this; omega
  have hB1 : Below w.heap.size w w1 := below_grown_new hg1 (fun k e => by simp at e)
  have HOW := Lib.hid hown1
  have HG1 := Lib.hid hg1
  clear hown1 hg1
  refine (thread (listU _ us _ (BoxU.mk ⟨_, rfl, HU.out.kept hB1 (Nat.le_refl _)⟩) (by omega)) w1.heap.size w1 (by go_grown) (by go_grown)).mono ?_
  rintro e w2 ⟨⟨v', rfl, ho2⟩, hX2, -, -, -, hz2⟩
  obtain ⟨al, cl, rfl⟩ := own_form ho2
  have c0 := kept_cell hX2 p0
  have c1 := kept_cell hX2 p1
  have hlt1 : w.heap.size + 1 < w1.heap.size := (HOW.out.lt _ rfl).2
  have HO2 := Lib.hid (own_below HOW.out hX2)
  have HL := Lib.hid ho2
  have hB2 := hB1.trans (hX2.mono hB1.size)
  have HC := Lib.hid (And.intro c0 c1)
  have HB2 := Lib.hid hB2
  clear ho2 hX2 p0 p1 HOW HG1 hB1 c0 c1 hB2
  go_wp2_with fail
  go_loopw [15] (fun i wr => ∃ j : Nat, i = .int .i64 j ∧ j ≤ us.length ∧ Hid (wr.ownsRow (w.heap.size + 1) 3 1 (.slice (some ⟨w.heap.size + 1, 0, none⟩) cs.length cs.length) cs.length (intsV (cntAt cs (us.take j)))) ∧ w2.grownBy wr (some (w.heap.size + 1))) (fun i _ => us.length - (intOf i).toNat)
  case atStart => exact ⟨0, rfl, Nat.zero_le _, HO2, World.grownBy.refl _ _⟩
  case round =>
    obtain ⟨j, rfl, hj, HO, hg⟩ := hrel
    have hj0 : (0 : Int) ≤ (j : Int) := Int.natCast_nonneg _
    have hBw : Below w.heap.size w wr := below_grown HB2.out hg (fun k e => by injection e with e; omega) HB2.out.size
    have hzw := hg.size
    by_cases hjl : j < us.length
    · have hj1 : (j : Int) < (us.length : Int) := by omega
      have hrow := HL.out.kept hg (by
        cases hx : (Value.slice al us.length cl).ownBlock with
        | none => exact Or.inl rfl
        | some g => exact Or.inr fun e => by have h1 := (HL.out.lt g hx).1; injection e with e; omega)
      obtain ⟨b0, off, rfl, hb, q0, q1, q2, q3⟩ := (slU_row hrow).2.cells4 j hjl
      have c0 := hg.cell HC.out.1 (by simp)
      have c1 := hg.cell HC.out.2 (by simp)
      have HT := Lib.hid (take_succ_u us j hjl)
      have HNr := Lib.hid (HN.out.kept hBw (Nat.le_refl _))
      have HBw := Lib.hid hBw
      have HGr := Lib.hid hg
      clear hrow hBw hg
      have hlen := cntAt_len cs (us.take j)
      have hcl := fun (i : Nat) h => cntAt_le cs (us.take j) i h
      have hcn := fun (h : chOf cs us[j].key < 0) => cntAt_none (cs := cs) (us := us.take j) (u := us[j]) h
      have hcs := fun (k : Nat) (h : chOf cs us[j].key = (k : Int)) hk => cntAt_some (cs := cs) (us := us.take j) (u := us[j]) (k := k) h hk
      rw [← HT.out] at hcn hcs
      have HLEN := Lib.hid hlen
      have HCL := Lib.hid hcl
      have HCN := Lib.hid hcn
      have HCS := Lib.hid hcs
      have htl : (us.take j).length ≤ 1000 := by rw [List.length_take]; omega
      clear hlen hcl hcn hcs
      generalize us[j] = u at *
      have c0' := cell_past (.cells #[.int .u8 u.kind, .string (S u.key), .string (S u.val), .int .u64 u.delta] 39) c0
      have c1' := cell_past (.cells #[.int .u8 u.kind, .string (S u.key), .string (S u.val), .int .u64 u.delta] 39) c1
      go_wp2_with fail
      refine (thread (child_any _ cs us u.key _ (HNr.out.kept (by go_grown) (Nat.le_refl _)) hl) wr.heap.size wr (by go_grown) (by go_grown)).mono ?_
      rintro e w3 ⟨rfl, hX3, -, -, hs3, hz3⟩
      obtain ⟨hq1, hq2⟩ := chAt_lt cs u.key cs.length
      have hcq : chOf cs u.key = chAt cs u.key cs.length := rfl
      have hg3 := grown_trans' HGr.out (grown_of_below (row := some (w.heap.size + 1)) hX3)
      have HO3 := Lib.hid (own_below HO.out hX3)
      rw [← hcq] at hq1 hq2
      clear hcq q0 q1 q2 q3 c0 c1 c0' c1'
      by_cases hneg : chOf cs u.key < 0
      · have HE := Lib.hid (HCN.out hneg)
        have hd : decide (0 ≤ chOf cs u.key) = false := by simpa using hneg
        generalize chOf cs u.key = q at *
        go_wp2_with fail
        go_roundw
        (case rel => exact ⟨j + 1, by go_num, by omega, by rw [HE.out]; exact HO3, hg3⟩)
        (case measure => first | (simp [intOf]; done) | (simp [intOf]; omega))
      · obtain ⟨q, hq⟩ : ∃ q : Nat, chOf cs u.key = (q : Int) := ⟨(chOf cs u.key).toNat, by omega⟩
        have hql : q < (cntAt cs (us.take j)).length := by rw [HLEN.out]; omega
        have HE := Lib.hid (HCS.out q hq hql)
        obtain ⟨hv1, hv2⟩ := HCL.out q hql
        rw [hq] at hq1 hq2 hneg
        rw [hq]
        have hq0 : (0 : Int) ≤ (q : Int) := Int.natCast_nonneg _
        have hd : decide ((0 : Int) ≤ (q : Int)) = true := by simp
        have r0 : w3.cell? ⟨w.heap.size + 1, q, none⟩ = some (.int .i64 (cntAt cs (us.take j))[q]) := by
          rw [HO3.out.cellAt q (by omega)]
          simp [intsV, hql]
        have r1 : w3.frozen? ⟨w.heap.size + 1, q, none⟩ = false := HO3.out.frozenAt q
        have hst := HO3.out.stored q (.int .i64 ((cntAt cs (us.take j))[q] + 1))
        have hst1 := hst.1
        rw [intsV_set, ← HE.out] at hst1
        have HST := Lib.hid (And.intro hst1 (grown_trans' hg3 hst.2))
        clear hst hst1 hq HO3 HE HCS HCN hg3 hX3
        have hu2 : (cntAt cs (us.take j))[q] ≤ 1000 := by omega
        generalize (cntAt cs (us.take j))[q] = z at *
        go_wp2_with fail
        go_roundw
        (case rel => exact ⟨j + 1, by go_num, by omega, Lib.hid HST.out.1, HST.out.2⟩)
        (case measure => first | (simp [intOf]; done) | (simp [intOf]; omega))
    · obtain rfl : j = us.length := by omega
      have HO' := Lib.hid (show Out w.heap.size (.slice (some ⟨w.heap.size + 1, 0, none⟩) cs.length cs.length) (cntAt cs us) wr from ⟨by have h := HO.out; rw [List.take_length] at h; rw [cntAt_len]; exact own_base h (by omega), by rw [cntAt_len]; rfl⟩)
      go_wp2_with fail
      go_ret
      exact ⟨⟨_, rfl, HO'.out⟩, hBw⟩

end Go.Proofs.YtafciefjlkdecaaGreat
