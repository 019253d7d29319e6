/-
  The walks of the document's layer 6, and of what a table says where it may not be.
-/
import Derived.Test.YtblleinahlaohaaBtl
import Derived.Test.YtblleinahlaohaaZr
namespace Go.Proofs.Ytblleinahlaohaa
open Go.RowKit Go.Shelf
set_option linter.unusedVariables false
attribute [local go_sem ↓] Go.wp_at_zero Go.wp_at_succ

def MayBe (nb sp : Int) : Prop := 1 ≤ nb ∧ nb ≤ 4096 ∧ 0 ≤ sp ∧ sp ≤ 32
instance (nb sp : Int) : Decidable (MayBe nb sp) := by unfold MayBe; infer_instance

set_option maxHeartbeats 1000000 in
theorem blocks_any (nb sp : Int) (a : Option Addr) (n c : Nat) (w : World) :
    Calls Try.prog 16 #[.agg #[.int .i64 nb, .int .i64 sp, .slice a n c]] w fun e w' => e = .returned (.int .i64 nb) ∧ Below w.heap.size w w' := by
  go_enter Try.func16, Try.ntmps16
  go_wp2_with fail
  go_ret
  exact ⟨rfl, by go_grown⟩

set_option maxHeartbeats 1000000 in
theorem may_any (nb sp : Int) (w : World) :
    Calls Try.prog 15 #[.int .i64 nb, .int .i64 sp] w fun e w' => e = .returned (.bool (decide (MayBe nb sp))) ∧ Below w.heap.size w w' := by
  by_cases h1 : 1 ≤ nb <;> by_cases h2 : nb ≤ 4096 <;> by_cases h3 : 0 ≤ sp <;> by_cases h4 : sp ≤ 32
  all_goals
    go_enter Try.func15, Try.ntmps15
    go_wp2_with fail
    go_ret
    exact ⟨by
      first
        | rw [decide_eq_true (show MayBe nb sp from ⟨h1, h2, h3, h4⟩)]; rfl
        | rw [decide_eq_false (show ¬ MayBe nb sp from fun h => by obtain ⟨q1, q2, q3, q4⟩ := h; omega)]; rfl, Below.refl _ _⟩

set_option maxHeartbeats 1000000 in
theorem new_bad (nb sp : Int) (w : World) (h : ¬ MayBe nb sp) :
    Calls Try.prog 7 #[.int .i64 nb, .int .i64 sp] w fun e w' => e = .returned (.tuple #[.agg #[.int .i64 0, .int .i64 0, .slice none 0 0], .int .i64 2]) ∧ Below w.heap.size w w' := by
  unfold MayBe at h
  by_cases k1 : nb < 1
  · go_enter Try.func7, Try.ntmps7
    go_wp2_with fail
    exact bodyPost_ret (v := .tuple #[.agg #[.int .i64 0, .int .i64 0, .slice none 0 0], .int .i64 2]) (by simp [results, Try.results7, go_sem]) rfl ⟨rfl, by go_grown⟩
  · by_cases k2 : (4096 : Int) < nb
    · go_enter Try.func7, Try.ntmps7
      go_wp2_with fail
      exact bodyPost_ret (v := .tuple #[.agg #[.int .i64 0, .int .i64 0, .slice none 0 0], .int .i64 2]) (by simp [results, Try.results7, go_sem]) rfl ⟨rfl, by go_grown⟩
    · by_cases k3 : sp < 0
      · go_enter Try.func7, Try.ntmps7
        go_wp2_with fail
        exact bodyPost_ret (v := .tuple #[.agg #[.int .i64 0, .int .i64 0, .slice none 0 0], .int .i64 2]) (by simp [results, Try.results7, go_sem]) rfl ⟨rfl, by go_grown⟩
      · have k4 : (32 : Int) < sp := by omega
        go_enter Try.func7, Try.ntmps7
        go_wp2_with fail
        exact bodyPost_ret (v := .tuple #[.agg #[.int .i64 0, .int .i64 0, .slice none 0 0], .int .i64 2]) (by simp [results, Try.results7, go_sem]) rfl ⟨rfl, by go_grown⟩

set_option maxHeartbeats 4000000 in
theorem move_range (nb sp : Int) (sv : Value) (zs : List Int) (x : Int) (w : World) (h : Ints w.heap.size w sv zs) (hx : ¬ (0 ≤ x ∧ x < nb)) :
    Calls Try.prog 9 #[.agg #[.int .i64 nb, .int .i64 sp, sv], .int .i64 x] w fun e w' => e = .returned (.tuple #[.agg #[.int .i64 0, .int .i64 0, .slice none 0 0], .int .i64 3]) ∧ Below w.heap.size w w' := by
  obtain ⟨a, c, rfl⟩ := h.len
  have his := fun w => is_any nb sp (.slice a zs.length c) ⟨_, _, _, rfl⟩ x w
  rw [show decide (0 ≤ x ∧ x < nb) = false by simpa using hx] at his
  have HI := Lib.hid his
  have HM := Lib.hid (MovAt.start (nb := nb) (sp := sp) h)
  clear h his
  go_enter Try.func9, Try.ntmps9
  go_upto_region 1 with (fail)
  obtain ⟨W, hW⟩ : ∃ W, W = ((w.alloc (.cells #[.int .i64 nb, .int .i64 sp, .slice a zs.length c] 25)).alloc (.cells #[.int .i64 0, .int .i64 0, .slice none 0 0] 25)) := ⟨_, rfl⟩
  rw [← hW] at HM ⊢
  clear hW
  obtain ⟨e0, e1, e2, -⟩ := HM.out
  go_wp2_with fail
  refine (HI.out _).mono ?_
  rintro e w1 ⟨rfl, hB1⟩
  have HM1 := Lib.hid (HM.out.on hB1)
  clear HM hB1 e0 e1 e2
  obtain ⟨e0, e1, e2, -⟩ := HM1.out
  obtain ⟨e0, e1, e2, r0, r1, r2, f2, g, -, low, sz⟩ := HM1.out
  have g0 := g 0
  have g1 := g 1
  have g2 := g 2
  go_wp2_with fail
  obtain ⟨Z, hZ⟩ : ∃ Z, Z = (((w1.setCell ⟨w.heap.size + 1, 0, none⟩ (.int .i64 0)).setCell ⟨w.heap.size + 1, 1, none⟩ (.int .i64 0)).setCell ⟨w.heap.size + 1, 2, none⟩ (.slice none 0 0)) := ⟨_, rfl⟩
  obtain ⟨s0, s1, s2, s3⟩ := set3 _ _ _ r0 r1 r2 hZ
  rw [← hZ]
  clear hZ
  exact bodyPost_ret (v := .tuple #[.agg #[.int .i64 0, .int .i64 0, .slice none 0 0], .int .i64 3]) (by simp [results, Try.results9, go_sem, s0, s1, s2]) rfl ⟨rfl, s3 _ _ low (by omega)⟩

set_option maxHeartbeats 1000000 in
theorem refAt_bad (nb : Int) (a : Option Addr) (n c : Nat) (x : Int) (w : World) (hx : ¬ (0 ≤ x ∧ x < nb)) :
    Calls Try.prog 30 #[.int .i64 nb, .slice a n c, .int .i64 x] w fun e w' => e = .returned (.tuple #[.int .i64 0, .int .i64 3]) ∧ Below w.heap.size w w' := by
  by_cases h0 : x < 0
  · go_enter Try.func30, Try.ntmps30
    go_wp2_with fail
    go_ret2
    exact ⟨rfl, Below.refl _ _⟩
  · have h1 : nb ≤ x := by omega
    go_enter Try.func30, Try.ntmps30
    go_wp2_with fail
    go_ret2
    exact ⟨rfl, Below.refl _ _⟩

set_option maxHeartbeats 2000000 in
theorem refAt_any (nb : Int) (sv : Value) (zs : List Int) (x : Int) (w : World) (h : Ints w.heap.size w sv zs) (hx : 0 ≤ x ∧ x < nb) (hnb : nb ≤ 4096) (hl : zs.length ≤ 900) :
    Calls Try.prog 30 #[.int .i64 nb, sv, .int .i64 x] w fun e w' => (∃ p, e = .returned (.tuple #[.int .i64 p, .int .i64 0]) ∧ PlaceIs nb zs x p) ∧ Below w.heap.size w w' := by
  obtain ⟨a, c, rfl⟩ := h.len
  have h0 : ¬ x < 0 := by omega
  have h1 : ¬ nb ≤ x := by omega
  have HI := Lib.hid h
  clear h
  go_enter Try.func30, Try.ntmps30
  go_wp2_with fail
  go_loopw [8, 9] (fun v i wr => ∃ (j : Nat) (p : Int), i = .int .i64 j ∧ v = .int .i64 p ∧ j ≤ zs.length ∧ Hid (PlaceIs nb (zs.take j) x p) ∧ wr = w) (fun _ i _ => zs.length - (intOf i).toNat)
  case atStart => exact ⟨0, x, rfl, rfl, Nat.zero_le _, Lib.hid (PlaceIs.own (by simp)), rfl⟩
  case round =>
    obtain ⟨j, p, rfl, rfl, hj, HP, rfl⟩ := hrel
    have hj0 : (0 : Int) ≤ (j : Int) := Int.natCast_nonneg _
    by_cases hjl : j < zs.length
    · have hj1 : (j : Int) < (zs.length : Int) := by omega
      obtain ⟨b, off, rfl, hb, q0⟩ := HI.out.at j hjl
      have HT := Lib.hid (show zs.take (j + 1) = zs.take j ++ [zs[j]] from List.take_succ_eq_append_getElem hjl)
      have HJ := Lib.hid (show (zs.take j).length = j by rw [List.length_take]; omega)
      generalize zs[j] = z at *
      by_cases hz : z = x
      · subst hz
        go_wp2_with fail
        exact ⟨⟨j + 1, nb + (j : Int), by go_num, rfl, by omega, Lib.hid (by rw [HT.out, show nb + (j : Int) = nb + ((zs.take j).length : Nat) by rw [HJ.out]]; exact PlaceIs.last nb z _), trivial⟩, by simp [intOf]; omega⟩
      · go_wp2_with fail
        exact ⟨⟨j + 1, p, by go_num, rfl, by omega, Lib.hid (by rw [HT.out]; exact HP.out.elder (fun e => hz e.symm)), trivial⟩, by simp [intOf]; omega⟩
    · obtain rfl : j = zs.length := by omega
      rw [List.take_length] at HP
      go_wp2_with fail
      go_ret2
      exact ⟨⟨p, rfl, HP.out⟩, Below.refl _ _⟩

set_option maxHeartbeats 1000000 in
theorem refMove_range (nb sp : Int) (a : Option Addr) (n c : Nat) (x : Int) (w : World) (hx : ¬ (0 ≤ x ∧ x < nb)) :
    Calls Try.prog 18 #[.int .i64 nb, .int .i64 sp, .slice a n c, .int .i64 x] w fun e w' => e = .returned (.tuple #[.slice a n c, .int .i64 3]) ∧ Below w.heap.size w w' := by
  by_cases h0 : x < 0
  · go_enter Try.func18, Try.ntmps18
    go_wp2_with fail
    go_ret2
    exact ⟨rfl, Below.refl _ _⟩
  · have h1 : nb ≤ x := by omega
    go_enter Try.func18, Try.ntmps18
    go_wp2_with fail
    go_ret2
    exact ⟨rfl, Below.refl _ _⟩

set_option maxHeartbeats 1000000 in
theorem refMove_full (nb sp : Int) (a : Option Addr) (n c : Nat) (x : Int) (w : World) (hx : 0 ≤ x ∧ x < nb) (hf : sp ≤ (n : Int)) :
    Calls Try.prog 18 #[.int .i64 nb, .int .i64 sp, .slice a n c, .int .i64 x] w fun e w' => e = .returned (.tuple #[.slice a n c, .int .i64 9]) ∧ Below w.heap.size w w' := by
  have h0 : ¬ x < 0 := by omega
  have h1 : ¬ nb ≤ x := by omega
  go_enter Try.func18, Try.ntmps18
  go_wp2_with fail
  go_ret2
  exact ⟨rfl, Below.refl _ _⟩

set_option maxHeartbeats 2000000 in
theorem refMove_ok (nb sp : Int) (sv : Value) (zs : List Int) (x : Int) (w : World) (h : Ints w.heap.size w sv zs) (hx : 0 ≤ x ∧ x < nb) (hf : (zs.length : Int) < sp) (hsp : sp ≤ 900) :
    Calls Try.prog 18 #[.int .i64 nb, .int .i64 sp, sv, .int .i64 x] w fun e w' => (∃ v', e = .returned (.tuple #[v', .int .i64 0]) ∧ Ints w'.heap.size w' v' (zs ++ [x]) ∧ ∀ k, v'.ownBlock = some k → w.heap.size ≤ k) ∧ Below w.heap.size w w' := by
  obtain ⟨i0, hi, hz0, hz1, hz2⟩ := info_parts infoI
  have h0 : ¬ x < 0 := by omega
  have h1 : ¬ nb ≤ x := by omega
  have h2 : ¬ sp ≤ (zs.length : Int) := by omega
  have hzl : zs.length ≤ 900 := by omega
  rcases h with ⟨rfl, rfl⟩ | ⟨b, off, cap, rfl, hb, hc⟩
  · have hown := World.ownsRow_nil w w.heap.size 3 1
    go_enter Try.func18, Try.ntmps18
    go_upto_region 7 with (fail)
    go_wp2_with (at_builtin; go_must (refine wpList_append_own_at _ rfl _ _ 23 rfl w.heap.size 3 i0 (.int .i64 0) 1 8 Try.underlying23 hi hz0 hz1 hz2 rfl (by decide) _ 0 [] rfl (hown.alloc _) ⟨w.heap.size, 0, none⟩ 1 1 [.int .i64 x] rfl rfl (cell_one_at _ _ rfl _ _) (fun u hu => by rw [List.mem_singleton.1 hu]; rfl) (by unfold maxLen; omega) (by omega) (by rw [World.size_alloc]; omega) ?_; intro vz wz hownz hgrowz hnilz hatz; have HO := Lib.hid hownz; have HG := Lib.hid (show Below w.heap.size w wz from below_grown_new hgrowz (fun k e => by exact absurd e (by simp [Act.eval, Value.ownBlock]))); clear hownz hgrowz hnilz hatz))
    go_ret2
    exact ⟨⟨_, rfl, (Ints.of_own HO.out).2, fun k e => (HO.out.lt k e).1⟩, HG.out⟩
  · have hown := World.ownsRow_nil w w.heap.size 3 1
    have hnews : ∀ j u, (intsV zs)[j]? = some u → w.cell? ((⟨b, off, none⟩ : Addr).add j) = some u := by
      intro j u hu
      have hj := (List.getElem?_eq_some_iff.1 hu).1
      rw [intsV_len] at hj
      rw [Addr.add_lit]
      refine (hc j hj).trans ?_
      rw [← hu]
      simp [intsV, hj]
    have hcl := intsV_len zs
    clear hc
    go_enter Try.func18, Try.ntmps18
    go_upto_region 7 with (at_builtin; go_must (refine wpList_append_own_at _ rfl _ _ 23 rfl w.heap.size 3 i0 (.int .i64 0) 1 8 Try.underlying23 hi hz0 hz1 hz2 rfl (by decide) _ 0 [] rfl hown ⟨b, off, none⟩ zs.length cap (intsV zs) rfl (by rw [hcl]; omega) hnews (fun u hu => by simp [intsV] at hu; obtain ⟨x, -, rfl⟩ := hu; rfl) (by unfold maxLen; omega) (by omega) (by simp) ?_; intro v' w3 hown' hgrow hnil hne; have HO3 := Lib.hid hown'; have HG3 := Lib.hid (show Below w.heap.size w w3 from below_grown (Below.refl _ w) hgrow (fun k e => by exact absurd e (by simp [Act.eval, Value.ownBlock])) (Nat.le_refl _)); clear hown' hgrow hnil hne))
    rw [Nat.zero_add, List.nil_append] at HO3
    have hz3 := HG3.out.size
    go_wp2_with (at_builtin; go_must (refine wpList_append_own_at _ rfl _ _ 23 rfl w.heap.size 3 i0 (.int .i64 0) 1 8 Try.underlying23 hi hz0 hz1 hz2 rfl (by decide) _ zs.length _ rfl (HO3.out.alloc _) ⟨w3.heap.size, 0, none⟩ 1 1 [.int .i64 x] rfl rfl (cell_one_at _ _ rfl _ _) (fun u hu => by rw [List.mem_singleton.1 hu]; rfl) (by unfold maxLen; omega) (by omega) (by rw [World.size_alloc]; omega) ?_; intro vz wz hownz hgrowz hnilz hatz; have HO := Lib.hid hownz; have HG := Lib.hid (show Below w.heap.size w wz from (HG3.out.alloc hz3 _).grown hgrowz (by rw [World.size_alloc]; omega) (fun k e => (HO3.out.lt k e).1)); clear hownz hgrowz hnilz hatz))
    go_ret2
    exact ⟨⟨_, rfl, (Ints.of_own (l := zs ++ [x]) (by rw [intsV_snoc]; exact HO.out)).2, fun k e => (HO.out.lt k e).1⟩, HG.out⟩

set_option maxRecDepth 100000 in
set_option maxHeartbeats 4000000 in
theorem refText_any (sv : Value) (zs : List Int) (w : World) (h : Ints w.heap.size w sv zs) (hz : ∀ z ∈ zs, 0 ≤ z ∧ z < 65536) (hl : zs.length ≤ 900) :
    Calls Try.prog 29 #[sv] w fun e w' => e = .returned (.string (S (textL zs))) ∧ Below w.heap.size w w' := by
  obtain ⟨a, c, rfl⟩ := h.len
  have HI := Lib.hid h
  have HZ := Lib.hid hz
  have hwl : IntKind.u64.wrap (zs.length : Int) = (zs.length : Int) := by rw [IntKind.wrap_u64]; omega
  clear h hz
  go_enter Try.func29, Try.ntmps29
  go_wp2_with fail
  refine (put_any zs.length (by omega) 8 (by decide) (by decide) w).mono ?_
  rintro e w1 ⟨rfl, hB1⟩
  have HL1 := Lib.hid hB1
  have hz1 := hB1.size
  clear hB1
  go_wp2_with fail
  go_loopw [3, 5] (fun v i wr => ∃ j : Nat, i = .int .i64 j ∧ j ≤ zs.length ∧ v = .string (S (le zs.length 8 ++ tailL (zs.take j))) ∧ Below w.heap.size w wr) (fun _ i _ => zs.length - (intOf i).toNat)
  case atStart => exact ⟨0, rfl, Nat.zero_le _, by simp [tailL], HL1.out⟩
  case round =>
    obtain ⟨j, rfl, hj, rfl, hB⟩ := hrel
    have hj0 : (0 : Int) ≤ (j : Int) := Int.natCast_nonneg _
    have hzr := hB.size
    by_cases hjl : j < zs.length
    · have hj1 : (j : Int) < (zs.length : Int) := by omega
      obtain ⟨b, off, rfl, hb, q0⟩ := (HI.out.below hB).at j hjl
      have hzz := HZ.out _ (List.getElem_mem hjl)
      have HT := Lib.hid (tailL_take zs j hjl)
      have htl : (tailL (zs.take j)).length ≤ 1800 := by rw [tailL_len, List.length_take]; omega
      generalize zs[j] = z at *
      obtain ⟨y, rfl⟩ := Int.eq_ofNat_of_zero_le hzz.1
      have hwy : IntKind.u64.wrap (y : Int) = (y : Int) := by rw [IntKind.wrap_u64]; omega
      have hy : y < 65536 := by omega
      simp only [Int.toNat_natCast] at HT
      go_wp2_with fail
      refine (put_any y (by omega) 2 (by decide) (by decide) wr).mono ?_
      rintro e w4 ⟨rfl, hB4⟩
      have HL4 := Lib.hid (hB.trans (hB4.mono hzr))
      clear hB4
      go_wp2_with fail
      exact ⟨⟨j + 1, by go_num, by omega, by rw [HT.out], HL4.out⟩, by simp [intOf]; omega⟩
    · obtain rfl : j = zs.length := by omega
      have HF := Lib.hid (show le zs.length 8 ++ tailL (zs.take zs.length) = textL zs by rw [List.take_length]; rfl)
      rw [HF.out]
      go_wp2_with fail
      go_ret
      exact ⟨rfl, hB⟩

set_option maxRecDepth 100000 in
set_option maxHeartbeats 4000000 in
theorem at_bad (nb sp : Int) (a : Option Addr) (n c : Nat) (x : Int) (w : World) (hx : ¬ (0 ≤ x ∧ x < nb)) :
    Calls Try.prog 13 #[.agg #[.int .i64 nb, .int .i64 sp, .slice a n c], .int .i64 x] w fun e w' => e = .returned (.tuple #[.int .i64 0, .int .i64 3]) ∧ Below w.heap.size w w' := by
  have his := fun w => is_any nb sp (.slice a n c) ⟨_, _, _, rfl⟩ x w
  rw [show decide (0 ≤ x ∧ x < nb) = false by simpa using hx] at his
  have HI := Lib.hid his
  clear his
  go_enter Try.func13, Try.ntmps13
  go_wp2_with fail
  refine (HI.out _).mono ?_
  rintro e w1 ⟨rfl, hB1⟩
  obtain ⟨W, hW⟩ : ∃ W, W = ((((w.alloc (.cells #[.int .i64 nb, .int .i64 sp, .slice a n c] 25)).alloc (.cells #[.int .i64 x] 3)).alloc (.cells #[.int .i64 0] 3)).alloc (.cells #[.int .i64 0] 26)) := ⟨_, rfl⟩
  rw [← hW] at hB1
  have hX : Below w.heap.size w W := by rw [hW]; go_grown
  have hWz : W.heap.size = w.heap.size + 4 := by rw [hW]; simp
  have cr : W.cell? ⟨w.heap.size + 1 + 1, 0, none⟩ = some (.int .i64 0) := by
    rw [hW, World.cell?_alloc_past _ _ _ (by simp), World.cell?_alloc_at _ _ _ _ (by simp)]; rfl
  have ce : W.cell? ⟨w.heap.size + 1 + 1 + 1, 0, none⟩ = some (.int .i64 0) := by
    rw [hW, World.cell?_alloc_at _ _ _ _ (by simp)]; rfl
  have fr : W.frozen? ⟨w.heap.size + 1 + 1, 0, none⟩ = false := by
    rw [hW, World.frozen?_alloc_past _ _ _ (by simp), World.frozen?_alloc_at _ _ _ _ (by simp)]
  have fe : W.frozen? ⟨w.heap.size + 1 + 1 + 1, 0, none⟩ = false := by
    rw [hW, World.frozen?_alloc_at _ _ _ _ (by simp)]
  clear hW
  replace cr := kept_cell hB1 cr
  replace ce := kept_cell hB1 ce
  replace fr := ((bcell hB1).2 _ 0 (by omega)).trans fr
  replace fe := ((bcell hB1).2 _ 0 (by omega)).trans fe
  have HL1 := Lib.hid (hX.trans (hB1.mono (by omega)))
  clear hX hB1 hWz
  go_wp2_with fail
  have nRE : (⟨w.heap.size + 1 + 1 + 1, 0, none⟩ : Addr) ≠ ⟨w.heap.size + 1 + 1, 0, none⟩ := fun e => by injection e with e1 e2; omega
  have hr : ((w1.setCell ⟨w.heap.size + 1 + 1, 0, none⟩ (.int .i64 0)).setCell ⟨w.heap.size + 1 + 1 + 1, 0, none⟩ (.int .i64 3)).cell? ⟨w.heap.size + 1 + 1, 0, none⟩ = some (.int .i64 0) := by rw [World.cell?_setCell_other _ _ _ _ nRE]; exact World.cell?_setCell_same _ _ _ cr
  have he : ((w1.setCell ⟨w.heap.size + 1 + 1, 0, none⟩ (.int .i64 0)).setCell ⟨w.heap.size + 1 + 1 + 1, 0, none⟩ (.int .i64 3)).cell? ⟨w.heap.size + 1 + 1 + 1, 0, none⟩ = some (.int .i64 3) := World.cell?_setCell_same _ _ _ ((World.cell?_setCell_other _ _ _ _ nRE.symm).trans ce)
  exact bodyPost_ret (v := .tuple #[.int .i64 0, .int .i64 3]) (by simp [results, Try.results13, go_sem, hr, he]) rfl ⟨rfl, (HL1.out.setCell (p := ⟨w.heap.size + 1 + 1, 0, none⟩) (show w.heap.size ≤ w.heap.size + 1 + 1 by omega) _).setCell (p := ⟨w.heap.size + 1 + 1 + 1, 0, none⟩) (show w.heap.size ≤ w.heap.size + 1 + 1 + 1 by omega) _⟩

end Go.Proofs.Ytblleinahlaohaa
