/-
  The walk of the source's Scan.
-/
import Derived.Test.YthcjcmalfnfjkaaSka
namespace Go.Proofs.Ythcjcmalfnfjkaa
open Go.RowKit
set_option linter.unusedVariables false
attribute [local go_sem ↓] Go.wp_at_zero Go.wp_at_succ

theorem infoI : (Try.prog.info? 3).map (fun i => (i.zero, i.size, i.bytes)) = some (some (.int .i64 0), 1, 8) := by kernel_rfl
theorem cell_two_at (w : World) (b : Nat) (hb : w.heap.size = b) (x y : Value) (t : TypeId) : ∀ j v, [x, y][j]? = some v → (w.alloc (.cells #[x, y] t)).cell? ((⟨b, 0, none⟩ : Addr).add j) = some v := by
  subst hb
  intro j v hj
  match j, hj with
  | 0, hj => simp only [List.getElem?_cons_zero, Option.some.injEq] at hj; subst hj; simp [Addr.add]
  | 1, hj => simp only [List.getElem?_cons_succ, List.getElem?_cons_zero, Option.some.injEq] at hj; subst hj; simp [Addr.add]
theorem two_oneCell (x y : ByteArray) : ∀ u ∈ [Value.string x, .string y], u.oneCell' = true := by
  intro u hu
  simp only [List.mem_cons, List.not_mem_nil, or_false] at hu
  rcases hu with rfl | rfl <;> rfl
theorem cell_one_at (w : World) (g : Nat) (hg : w.heap.size = g) (x : Value) (t : TypeId) : ∀ j u, [x][j]? = some u → (w.alloc (.cells #[x] t)).cell? ((⟨g, 0, none⟩ : Addr).add j) = some u := by
  subst hg; exact cell_one_new _ _ _
theorem cellsE_snoc (l : List Ent) (u : Ent) : cellsE (l ++ [u]) = cellsE l ++ [.string (S u.key), .string (S u.val)] := by simp [cellsE, Ent.cells]

theorem ShAt.on {w w' : World} {B0 B1 q : Nat} {va : Value} {L : List Ent} {A : List Int} {fail : Int} (h : ShAt w B0 B1 q va L A fail) (hb : Below w.heap.size w w') : ShAt w' B0 B1 q va L A fail := by
  obtain ⟨aL, cL, h0, hr⟩ := h.c0
  refine ⟨⟨aL, cL, kept_cell hb h0, ?_⟩, kept_cell hb h.c1, kept_cell hb h.c2, kept_frozen hb h.c1 h.f1, kept_frozen hb h.c1 h.f2, own_below h.own hb, h.lt, h.le⟩
  rcases hr with hr | ⟨b, off, rfl, h1, h2, h3⟩
  · exact Or.inl hr
  · exact Or.inr ⟨b, off, rfl, h1, h2, fun i hi j x hx => kept_cell hb (h3 i hi j x hx)⟩
/-- The source was asked. -/
theorem ShAt.asked {w w1 : World} {B0 B1 q : Nat} {va va' : Value} {L : List Ent} {A : List Int} {fail x : Int} {o : Obj} (h : ShAt w B0 B1 q va L A fail) (ho : w1.ownsRow B1 3 1 va' (A.length + 1) (intsV A ++ [.int .i64 x]))
    (hg : (w.alloc o).grownBy w1 va.ownBlock) (hb : va'.ownBlock = va.ownBlock ∨ va'.ownBlock = some (w.alloc o).heap.size) (hB : B1 ≤ w.heap.size) :
    ShAt (w1.setCell ⟨q, 1, none⟩ va') B0 B1 q va' L (A ++ [x]) fail ∧ Chg q q va w (w1.setCell ⟨q, 1, none⟩ va') ∧ (va'.ownBlock = va.ownBlock ∨ va'.ownBlock = some (w.heap.size + 1)) := by
  have hq := h.lt
  have hqb : some q ≠ va.ownBlock := fun e => by have := (h.own.lt q e.symm).1; omega
  have hqb' : va'.ownBlock ≠ some q := fun e => by have := (ho.lt q e).1; omega
  have z1 := hg.cell (cell_past o h.c1) hqb
  obtain ⟨aL, cL, h0, hr⟩ := h.c0
  have hfz : ∀ o', w1.frozen? ⟨q, o', none⟩ = w.frozen? ⟨q, o', none⟩ := fun o' => by
    rw [World.frozen?_of_block (hg.block q (by rw [World.size_alloc]; omega) hqb), World.frozen?_alloc_past _ _ _ (by show q < w.heap.size; omega)]
  refine ⟨⟨⟨aL, cL, ?_, ?_⟩, World.cell?_setCell_same _ _ _ z1, ?_, ?_, ?_, ?_, hq, h.le⟩, ⟨?_, ?_, ?_, ?_, ?_⟩, ?_⟩
  · rw [World.cell?_setCell_other _ _ _ _ (addr_ne (Or.inr (by decide)))]
    exact hg.cell (cell_past o h0) hqb
  · rcases hr with hr | ⟨b, off, rfl, h1, h2, h3⟩
    · exact Or.inl hr
    · refine Or.inr ⟨b, off, rfl, h1, h2, fun i hi j x hx => ?_⟩
      rw [World.cell?_setCell_other _ _ _ _ (addr_ne (Or.inl (fun e => h2 e.symm)))]
      exact hg.cell (cell_past o (h3 i hi j x hx)) (fun e => by have := (h.own.lt b e.symm).1; have := h.le; omega)
  · rw [World.cell?_setCell_other _ _ _ _ (addr_ne (Or.inr (by decide)))]
    exact hg.cell (cell_past o h.c2) hqb
  · rw [World.frozen?_setCell, hfz]; exact h.f1
  · rw [World.frozen?_setCell, hfz]; exact h.f2
  · rw [intsV_snoc, List.length_append, List.length_singleton]
    exact ownsRow_setCell_other (a := ⟨q, 1, none⟩) ho hqb' _
  · exact hg.os
  · exact hg.tape
  · exact hg.output
  · rw [World.size_setCell]; have := hg.size; rw [World.size_alloc] at this; omega
  · intro k hk h1 h2 h3
    rw [Below.heap_setCell w1 ⟨q, 1, none⟩ va' k h1, hg.block k (by rw [World.size_alloc]; omega) (fun e => h3 e.symm)]
    exact Below.heap_alloc w o k hk
  · rw [World.size_alloc] at hb; exact hb

theorem filter_take1 {α : Type} (F : α → Bool) (l : List α) (j : Nat) (h : j < l.length) : (l.take (j + 1)).filter F = if F l[j] = true then (l.take j).filter F ++ [l[j]] else (l.take j).filter F := by
  rw [List.take_succ_eq_append_getElem h, List.filter_append]
  split
  · rename_i h1; rw [List.filter_cons_of_pos h1]; rfl
  · rename_i h1; rw [List.filter_cons_of_neg h1]; simp
/-- One more that may be told. -/
theorem scan_more {L : List Ent} {lo hi : List UInt8} {m : Int} {j : Nat} (h : j < L.length) (hw : withinE lo hi L[j] = true) (hm : ((scanL (L.take j) lo hi m).length : Int) < m) : scanL (L.take (j + 1)) lo hi m = scanL (L.take j) lo hi m ++ [L[j]] := by
  unfold scanL at hm ⊢
  rw [filter_take1 _ _ _ h, if_pos hw]
  generalize (L.take j).filter (withinE lo hi) = o at *
  rw [List.length_take] at hm
  rw [List.take_append, List.take_of_length_le (by omega), List.take_of_length_le (by simp; omega)]
theorem scan_full {L : List Ent} {lo hi : List UInt8} {m : Int} {j : Nat} (h : j < L.length) (hm : ¬ ((scanL (L.take j) lo hi m).length : Int) < m) : scanL (L.take (j + 1)) lo hi m = scanL (L.take j) lo hi m := by
  unfold scanL at hm ⊢
  rw [filter_take1 _ _ _ h]
  split
  · rw [List.length_take] at hm
    rw [List.take_append, show m.toNat - ((L.take j).filter (withinE lo hi)).length = 0 by omega]
    simp
  · rfl
theorem scan_out {L : List Ent} {lo hi : List UInt8} {m : Int} {j : Nat} (h : j < L.length) (hw : withinE lo hi L[j] = false) : scanL (L.take (j + 1)) lo hi m = scanL (L.take j) lo hi m := by
  unfold scanL
  rw [filter_take1 _ _ _ h, if_neg (by rw [hw]; simp)]
theorem scan_len (L : List Ent) (lo hi : List UInt8) (m : Int) : (scanL L lo hi m).length ≤ L.length := by
  unfold scanL
  refine Nat.le_trans (List.length_take_le' _ _) (List.length_filter_le _ _)
theorem within_yes {e : Ent} {lo hi : List UInt8} (h : withinE lo hi e = true) : Op.bytesLess e.key lo = false ∧ (hi = [] ∨ (¬ hi = [] ∧ Op.bytesLess e.key hi = true)) := by
  unfold withinE at h
  simp only [Bool.and_eq_true, Bool.not_eq_true', Bool.or_eq_true, List.isEmpty_iff] at h
  refine ⟨h.1, ?_⟩
  rcases h.2 with h2 | h2
  · exact Or.inl h2
  · by_cases e : hi = []
    · exact Or.inl e
    · exact Or.inr ⟨e, h2⟩
theorem within_no {e : Ent} {lo hi : List UInt8} (h : withinE lo hi e = false) : Op.bytesLess e.key lo = true ∨ (Op.bytesLess e.key lo = false ∧ ¬ hi = [] ∧ Op.bytesLess e.key hi = false) := by
  cases h1 : Op.bytesLess e.key lo with
  | true => exact Or.inl rfl
  | false =>
    refine Or.inr ⟨rfl, ?_⟩
    unfold withinE at h
    rw [show bl e.key lo = false from h1] at h
    constructor
    · intro e2; rw [e2] at h; simp at h
    · cases h3 : Op.bytesLess e.key hi with
      | false => rfl
      | true => rw [show bl e.key hi = true from h3] at h; simp at h

/-- What Scan leaves. -/
def ScanOk (w : World) (B0 B1 q : Nat) (va : Value) (L : List Ent) (A : List Int) (fail : Int) (lo hi : List UInt8) (most : Int) (e : Ending) (w' : World) : Prop :=
  ∃ va' a c, e = .returned (.tuple #[.slice a (scanL L lo hi most).length c, .int .i64 0]) ∧ w'.ownsRow w.heap.size 55 2 (.slice a (scanL L lo hi most).length c) (scanL L lo hi most).length (cellsE (scanL L lo hi most)) ∧
    ShAt w' B0 B1 q va' L (A ++ [most]) fail ∧ Chg q q va w w' ∧ (va'.ownBlock = va.ownBlock ∨ va'.ownBlock = some (w.heap.size + 1))

set_option maxRecDepth 100000 in
set_option maxHeartbeats 8000000 in
theorem scan_ok (B0 B1 q : Nat) (va : Value) (L : List Ent) (A : List Int) (fail : Int) (lo hi : List UInt8) (most : Int) (w : World) (h : ShAt w B0 B1 q va L A fail) (hf : fail ≠ (A.length : Int) + 1) (hA : A.length ≤ 1000000) (hL : L.length ≤ 1000) (hB : B1 ≤ w.heap.size) :
    Calls Try.prog 102 #[.pointer (some ⟨q, 0, none⟩), .string (S lo), .string (S hi), .int .i64 most] w (ScanOk w B0 B1 q va L A fail lo hi most) := by
  obtain ⟨i0, hi0, iz0, iz1, iz2⟩ := info_parts infoI
  obtain ⟨j0, hjE, jz0, jz1, jz2⟩ := info_parts infoE
  obtain ⟨ga, ca, rfl⟩ := own_form h.own
  have h1 := h.c1
  have hf1 := h.f1
  have hq := h.lt
  have hfd : (fail == (A.length : Int) + 1) = false := by simpa using hf
  have HF := Lib.hid hfd
  have HS := Lib.hid h
  clear h hf hfd
  go_enter Try.func102, Try.ntmps102
  go_wp2_with (at_builtin; go_must (refine wpList_append_own_at _ rfl (.tmp 17) (.tmp 19) 65 rfl B1 3 i0 (.int .i64 0) 1 8 Try.underlying65 hi0 iz0 iz1 iz2 rfl (by decide) _ A.length _ rfl (HS.out.own.alloc _) ⟨w.heap.size, 0, none⟩ 1 1 [.int .i64 most] rfl rfl (cell_one_at _ _ rfl _ _) (by intro u hu; simp at hu; subst hu; rfl) (by unfold maxLen; omega) (by omega) (by simp; omega) ?_; intro vz wz hownwz hgrowwz hzz hbz; obtain ⟨gz, cz, ez⟩ := own_form hownwz; subst ez; have zc := hgrowwz.cell (cell_past _ h1) (fun e => by have := (HS.out.own.lt q e.symm).1; omega); have zf : wz.frozen? ⟨q, 1, none⟩ = false := by rw [World.frozen?_of_block (hgrowwz.block q (by rw [World.size_alloc]; omega) (fun e => by have := (HS.out.own.lt q e.symm).1; omega)), World.frozen?_alloc_past _ _ _ (by show q < w.heap.size; omega)]; exact hf1))
  obtain ⟨hs1, hch, hvb⟩ := HS.out.asked hownwz hgrowwz hbz hB
  obtain ⟨w1, hw1⟩ : ∃ w1, w1 = wz.setCell ⟨q, 1, none⟩ (.slice gz (A.length + 1) cz) := ⟨_, rfl⟩
  rw [← hw1] at hs1 hch ⊢
  clear hw1 hownwz hgrowwz hzz hbz zc zf h1 hf1 HS
  have hz1 := hch.size
  have HCH := Lib.hid hch
  have HVB := Lib.hid hvb
  have HS := Lib.hid hs1
  have c1 := hs1.c1
  have c2 := hs1.c2
  clear hs1 hch hvb
  refine WQ.region (C := fun w' => Below w1.heap.size w1 w') (by kernel_rfl) (by kernel_rfl) (below_drew' (Below.refl _ _)) ?_
  refine WQ.want (by rfl) (fun K hK => ?_)
  refine ⟨.pointer (some ⟨q, 0, none⟩), fun w' hw' => ?_, hK _ ?_⟩
  · have hq' := hw'
    go_simp
  clear hK K
  (try simp only [Act.put, List.setIfInBounds_toArray, List.set_cons_zero, List.set_cons_succ])
  refine WQ.want (by rfl) (fun K hK => ?_)
  refine ⟨.pointer (some ⟨q, 0, none⟩), fun w' hw' => ?_, hK _ ?_⟩
  · have hq' := hw'
    go_simp
  clear hK K
  (try simp only [Act.put, List.setIfInBounds_toArray, List.set_cons_zero, List.set_cons_succ])
  refine WQ.want (by rfl) (fun K hK => ?_)
  refine ⟨.pointer (some ⟨q, 2, none⟩), fun w' hw' => ?_, hK _ ?_⟩
  · have hq' := hw'
    go_simp
  clear hK K
  (try simp only [Act.put, List.setIfInBounds_toArray, List.set_cons_zero, List.set_cons_succ])
  refine WQ.want (by rfl) (fun K hK => ?_)
  refine ⟨.int .i64 fail, fun w' hw' => ?_, hK _ ?_⟩
  · have hq' := hw'
    have z0 := kept_cell hw' c1; have z1 := kept_cell hw' c2; go_simp
  clear hK K
  (try simp only [Act.put, List.setIfInBounds_toArray, List.set_cons_zero, List.set_cons_succ])
  refine WQ.want (by rfl) (fun K hK => ?_)
  refine ⟨.pointer (some ⟨q, 0, none⟩), fun w' hw' => ?_, hK _ ?_⟩
  · have hq' := hw'
    go_simp
  clear hK K
  (try simp only [Act.put, List.setIfInBounds_toArray, List.set_cons_zero, List.set_cons_succ])
  refine WQ.want (by rfl) (fun K hK => ?_)
  refine ⟨.pointer (some ⟨q, 0, none⟩), fun w' hw' => ?_, hK _ ?_⟩
  · have hq' := hw'
    go_simp
  clear hK K
  (try simp only [Act.put, List.setIfInBounds_toArray, List.set_cons_zero, List.set_cons_succ])
  refine WQ.want (by rfl) (fun K hK => ?_)
  refine ⟨.pointer (some ⟨q, 1, none⟩), fun w' hw' => ?_, hK _ ?_⟩
  · have hq' := hw'
    go_simp
  clear hK K
  (try simp only [Act.put, List.setIfInBounds_toArray, List.set_cons_zero, List.set_cons_succ])
  refine WQ.want (by rfl) (fun K hK => ?_)
  refine ⟨.slice gz (A.length + 1) cz, fun w' hw' => ?_, hK _ ?_⟩
  · have hq' := hw'
    have z0 := kept_cell hw' c1; have z1 := kept_cell hw' c2; go_simp
  clear hK K
  (try simp only [Act.put, List.setIfInBounds_toArray, List.set_cons_zero, List.set_cons_succ])
  refine WQ.want (by rfl) (fun K hK => ?_)
  refine ⟨.int .i64 ((A.length : Int) + 1), fun w' hw' => ?_, hK _ ?_⟩
  · have hq' := hw'
    go_simp
  clear hK K
  (try simp only [Act.put, List.setIfInBounds_toArray, List.set_cons_zero, List.set_cons_succ])
  refine WQ.want (by rfl) (fun K hK => ?_)
  refine ⟨.bool false, fun w' hw' => ?_, hK _ ?_⟩
  · have hq' := hw'
    have z0 := kept_cell hw' c1; have z1 := kept_cell hw' c2; have hfd := HF.out; go_simp
  clear hK K
  (try simp only [Act.put, List.setIfInBounds_toArray, List.set_cons_zero, List.set_cons_succ])
  refine WQ.done ?_
  rintro w2 hX2
  replace HS := Lib.hid (HS.out.on hX2)
  replace HCH := Lib.hid (HCH.out.trans (Chg.of_below (va := .slice ga A.length ca) hX2) (fun i _ e => e))
  have hz2 := hX2.size
  clear hX2 c1 c2 HF
  obtain ⟨aL, cL, h0, hr⟩ := HS.out.c0
  have HR := Lib.hid hr
  have hL0 : Hid (scanL (L.take 0) lo hi most = []) := Lib.hid (by simp [scanL])
  clear hr
  go_wp2_with fail
  go_loopw [38, 10] (fun i v wr => ∃ (j : Nat) (o : List Ent), i = .int .i64 j ∧ j ≤ L.length ∧ Hid (o = scanL (L.take j) lo hi most) ∧ wr.ownsRow w2.heap.size 55 2 v o.length (cellsE o) ∧ Below w2.heap.size w2 wr) (fun i _ _ => L.length - (intOf i).toNat)
  case atStart => exact ⟨0, [], rfl, Nat.zero_le _, Lib.hid hL0.out.symm, World.ownsRow_nil _ _ _ _, Below.refl _ _⟩
  case round =>
    obtain ⟨j, o, rfl, hj, ho, hown, hX⟩ := hrel
    have hj0 : (0 : Int) ≤ (j : Int) := Int.natCast_nonneg _
    obtain ⟨ov, oc, eo⟩ := own_form hown
    subst eo
    have hol : o.length ≤ 1000 := by rw [ho.out]; have := scan_len (L.take j) lo hi most; rw [List.length_take] at this; omega
    have hzr := hX.size
    have HO := Lib.hid hown
    clear hown
    by_cases hjl : j < L.length
    · have hj1 : (j : Int) < (L.length : Int) := by omega
      rcases HR.out with hr | ⟨b, off, rfl, hb1, hbq, hcl⟩
      · rw [hr] at hjl; simp at hjl
      have hle := HS.out.le
      have d0 := (cell_below hX (by omega : b < w2.heap.size) _).trans (hcl j hjl 0 _ rfl)
      have d1 := (cell_below hX (by omega : b < w2.heap.size) _).trans (hcl j hjl 1 _ rfl)
      rw [Nat.add_zero] at d0
      have hbr : b < wr.heap.size := by omega
      clear hcl
      have HW1 := Lib.hid (fun h1 h2 => scan_more (lo := lo) (hi := hi) (m := most) hjl h1 h2)
      have HW2 := Lib.hid (fun h2 => scan_full (lo := lo) (hi := hi) (m := most) hjl h2)
      have HW3 := Lib.hid (fun h1 => scan_out (lo := lo) (hi := hi) (m := most) hjl h1)
      rw [← ho.out] at HW1 HW2 HW3
      generalize L[j] = u at *
      cases hw : withinE lo hi u with
      | false =>
        have HN := Lib.hid (HW3.out hw)
        rcases within_no hw with hA1 | ⟨hA1, hA2, hA3⟩
        all_goals
          clear hw HW1 HW2 HW3
          go_wp2_with fail
          exact ⟨⟨j + 1, o, by go_num, by omega, Lib.hid (by rw [HN.out]), own_below HO.out (by go_grown), by go_grown⟩, by simp [intOf]; omega⟩
      | true =>
        obtain ⟨hA1, hA2⟩ := within_yes hw
        by_cases hm : (o.length : Int) < most
        · have HN := Lib.hid (HW1.out hw hm)
          rcases hA2 with rfl | ⟨hA2, hA3⟩
          all_goals
            clear hw HW1 HW2 HW3
            go_wp2_with (at_builtin; go_must (refine wpList_append_own_at _ rfl (.tmp 62) (.tmp 64) 49 rfl w2.heap.size 55 j0 (.agg #[.string ByteArray.empty, .string ByteArray.empty]) 2 32 Try.underlying49 hjE jz0 jz1 jz2 rfl (by decide) _ o.length _ rfl ((HO.out.alloc _).alloc _) ⟨wr.heap.size + 1, 0, none⟩ 1 1 [.string (S u.key), .string (S u.val)] rfl rfl (cell_two_at _ _ (by simp) _ _ _) (two_oneCell _ _) (by unfold maxLen; omega) (by omega) (by simp; omega) ?_; intro vz wz hownwz hgrowwz hzz hbz))
            go_wp2_with fail
            exact ⟨⟨j + 1, o ++ [u], by go_num, by omega, Lib.hid (by rw [HN.out]), by rw [cellsE_snoc, List.length_append, List.length_singleton]; exact hownwz, below_grown ((hX.alloc (by omega) _).alloc (by simp; omega) _) hgrowwz (fun k e => (HO.out.lt k e).1) (by simp; omega)⟩, by simp [intOf]; omega⟩
        · have HN := Lib.hid (HW2.out hm)
          rcases hA2 with rfl | ⟨hA2, hA3⟩
          all_goals
            clear hw HW1 HW2 HW3
            go_wp2_with fail
            exact ⟨⟨j + 1, o, by go_num, by omega, Lib.hid (by rw [HN.out]), own_below HO.out (by go_grown), by go_grown⟩, by simp [intOf]; omega⟩
    · obtain rfl : j = L.length := by omega
      have hoe := ho.out
      rw [List.take_length] at hoe
      subst hoe
      go_wp2_with fail
      refine bodyPost_ret (v := .tuple #[.slice ov (scanL L lo hi most).length oc, .int .i64 0]) (by simp [results, Try.results102, go_sem]) rfl ?_
      exact ⟨_, ov, oc, rfl, own_base HO.out (by omega), HS.out.on hX, HCH.out.trans (Chg.of_below (va := .slice ga A.length ca) hX) (fun i _ e => e), HVB.out⟩

/-- The source fails. -/
def ScanBad (w : World) (B0 B1 q : Nat) (va : Value) (L : List Ent) (A : List Int) (fail : Int) (most : Int) (e : Ending) (w' : World) : Prop :=
  ∃ va', e = .returned (.tuple #[.slice none 0 0, .int .i64 10]) ∧ ShAt w' B0 B1 q va' L (A ++ [most]) fail ∧ Chg q q va w w' ∧ (va'.ownBlock = va.ownBlock ∨ va'.ownBlock = some (w.heap.size + 1))

set_option maxRecDepth 100000 in
set_option maxHeartbeats 8000000 in
theorem scan_bad (B0 B1 q : Nat) (va : Value) (L : List Ent) (A : List Int) (fail : Int) (lo hi : List UInt8) (most : Int) (w : World) (h : ShAt w B0 B1 q va L A fail) (hf : fail = (A.length : Int) + 1) (hA : A.length ≤ 1000000) (hB : B1 ≤ w.heap.size) :
    Calls Try.prog 102 #[.pointer (some ⟨q, 0, none⟩), .string (S lo), .string (S hi), .int .i64 most] w (ScanBad w B0 B1 q va L A fail most) := by
  obtain ⟨i0, hi0, iz0, iz1, iz2⟩ := info_parts infoI
  obtain ⟨ga, ca, rfl⟩ := own_form h.own
  have h1 := h.c1
  have hf1 := h.f1
  have hq := h.lt
  have hfd : (fail == (A.length : Int) + 1) = true := by simpa using hf
  have HF := Lib.hid hfd
  have HS := Lib.hid h
  clear h hf hfd
  go_enter Try.func102, Try.ntmps102
  go_wp2_with (at_builtin; go_must (refine wpList_append_own_at _ rfl (.tmp 17) (.tmp 19) 65 rfl B1 3 i0 (.int .i64 0) 1 8 Try.underlying65 hi0 iz0 iz1 iz2 rfl (by decide) _ A.length _ rfl (HS.out.own.alloc _) ⟨w.heap.size, 0, none⟩ 1 1 [.int .i64 most] rfl rfl (cell_one_at _ _ rfl _ _) (by intro u hu; simp at hu; subst hu; rfl) (by unfold maxLen; omega) (by omega) (by simp; omega) ?_; intro vz wz hownwz hgrowwz hzz hbz; obtain ⟨gz, cz, ez⟩ := own_form hownwz; subst ez; have zc := hgrowwz.cell (cell_past _ h1) (fun e => by have := (HS.out.own.lt q e.symm).1; omega); have zf : wz.frozen? ⟨q, 1, none⟩ = false := by rw [World.frozen?_of_block (hgrowwz.block q (by rw [World.size_alloc]; omega) (fun e => by have := (HS.out.own.lt q e.symm).1; omega)), World.frozen?_alloc_past _ _ _ (by show q < w.heap.size; omega)]; exact hf1))
  obtain ⟨hs1, hch, hvb⟩ := HS.out.asked hownwz hgrowwz hbz hB
  obtain ⟨w1, hw1⟩ : ∃ w1, w1 = wz.setCell ⟨q, 1, none⟩ (.slice gz (A.length + 1) cz) := ⟨_, rfl⟩
  rw [← hw1] at hs1 hch ⊢
  clear hw1 hownwz hgrowwz hzz hbz zc zf h1 hf1 HS
  have hz1 := hch.size
  have HCH := Lib.hid hch
  have HVB := Lib.hid hvb
  have HS := Lib.hid hs1
  have c1 := hs1.c1
  have c2 := hs1.c2
  clear hs1 hch hvb
  refine WQ.region (C := fun w' => Below w1.heap.size w1 w') (by kernel_rfl) (by kernel_rfl) (below_drew' (Below.refl _ _)) ?_
  refine WQ.want (by rfl) (fun K hK => ?_)
  refine ⟨.pointer (some ⟨q, 0, none⟩), fun w' hw' => ?_, hK _ ?_⟩
  · have hq' := hw'
    go_simp
  clear hK K
  (try simp only [Act.put, List.setIfInBounds_toArray, List.set_cons_zero, List.set_cons_succ])
  refine WQ.want (by rfl) (fun K hK => ?_)
  refine ⟨.pointer (some ⟨q, 0, none⟩), fun w' hw' => ?_, hK _ ?_⟩
  · have hq' := hw'
    go_simp
  clear hK K
  (try simp only [Act.put, List.setIfInBounds_toArray, List.set_cons_zero, List.set_cons_succ])
  refine WQ.want (by rfl) (fun K hK => ?_)
  refine ⟨.pointer (some ⟨q, 2, none⟩), fun w' hw' => ?_, hK _ ?_⟩
  · have hq' := hw'
    go_simp
  clear hK K
  (try simp only [Act.put, List.setIfInBounds_toArray, List.set_cons_zero, List.set_cons_succ])
  refine WQ.want (by rfl) (fun K hK => ?_)
  refine ⟨.int .i64 fail, fun w' hw' => ?_, hK _ ?_⟩
  · have hq' := hw'
    have z0 := kept_cell hw' c1; have z1 := kept_cell hw' c2; go_simp
  clear hK K
  (try simp only [Act.put, List.setIfInBounds_toArray, List.set_cons_zero, List.set_cons_succ])
  refine WQ.want (by rfl) (fun K hK => ?_)
  refine ⟨.pointer (some ⟨q, 0, none⟩), fun w' hw' => ?_, hK _ ?_⟩
  · have hq' := hw'
    go_simp
  clear hK K
  (try simp only [Act.put, List.setIfInBounds_toArray, List.set_cons_zero, List.set_cons_succ])
  refine WQ.want (by rfl) (fun K hK => ?_)
  refine ⟨.pointer (some ⟨q, 0, none⟩), fun w' hw' => ?_, hK _ ?_⟩
  · have hq' := hw'
    go_simp
  clear hK K
  (try simp only [Act.put, List.setIfInBounds_toArray, List.set_cons_zero, List.set_cons_succ])
  refine WQ.want (by rfl) (fun K hK => ?_)
  refine ⟨.pointer (some ⟨q, 1, none⟩), fun w' hw' => ?_, hK _ ?_⟩
  · have hq' := hw'
    go_simp
  clear hK K
  (try simp only [Act.put, List.setIfInBounds_toArray, List.set_cons_zero, List.set_cons_succ])
  refine WQ.want (by rfl) (fun K hK => ?_)
  refine ⟨.slice gz (A.length + 1) cz, fun w' hw' => ?_, hK _ ?_⟩
  · have hq' := hw'
    have z0 := kept_cell hw' c1; have z1 := kept_cell hw' c2; go_simp
  clear hK K
  (try simp only [Act.put, List.setIfInBounds_toArray, List.set_cons_zero, List.set_cons_succ])
  refine WQ.want (by rfl) (fun K hK => ?_)
  refine ⟨.int .i64 ((A.length : Int) + 1), fun w' hw' => ?_, hK _ ?_⟩
  · have hq' := hw'
    go_simp
  clear hK K
  (try simp only [Act.put, List.setIfInBounds_toArray, List.set_cons_zero, List.set_cons_succ])
  refine WQ.want (by rfl) (fun K hK => ?_)
  refine ⟨.bool true, fun w' hw' => ?_, hK _ ?_⟩
  · have hq' := hw'
    have z0 := kept_cell hw' c1; have z1 := kept_cell hw' c2; have hfd := HF.out; go_simp
  clear hK K
  (try simp only [Act.put, List.setIfInBounds_toArray, List.set_cons_zero, List.set_cons_succ])
  refine WQ.done ?_
  rintro w2 hX2
  replace HS := Lib.hid (HS.out.on hX2)
  replace HCH := Lib.hid (HCH.out.trans (Chg.of_below (va := .slice ga A.length ca) hX2) (fun i _ e => e))
  clear hX2 c1 c2 HF
  go_wp2_with fail
  refine bodyPost_ret (v := .tuple #[.slice none 0 0, .int .i64 10]) (by simp [results, Try.results102, go_sem]) rfl ?_
  exact ⟨_, rfl, HS.out, HCH.out, HVB.out⟩

end Go.Proofs.Ythcjcmalfnfjkaa
