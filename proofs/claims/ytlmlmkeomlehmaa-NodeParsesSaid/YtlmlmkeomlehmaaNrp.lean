/-
  The walks of the document's Read, and of its Parse of nodes.
-/
import Derived.Test.YtlmlmkeomlehmaaNrb
namespace Go.Proofs.Ytlmlmkeomlehmaa
open Go.RowKit
attribute [local go_sem ↓] Go.wp_at_zero Go.wp_at_succ

theorem sub_str (l : List UInt8) (i j : Nat) (h : i ≤ j) (hj : j ≤ l.length) (w : World) : (Instr.slice 9 (.string (S l)) (some (.int .i64 (i : Int))) (some (.int .i64 (j : Int))) none).run Try.prog w = .ok (.string (S ((l.drop i).take (j - i)))) w := by
  rw [run_slice_string_if (P := Try.prog) w 9 (S l) .i64 .i64 (i : Int) (j : Int) Try.underlying9]
  rw [if_pos (by rw [S_size]; omega)]
  simp [S_extract]
  intro hc
  exfalso
  omega
theorem wtext_split {ps : List (Nat × Nat)} (rest : List UInt8) {i : Nat} (hi : i < ps.length) : ((wtext ps ++ rest).drop (sumW (ps.take i))).take ps[i].1 = le ps[i].2 ps[i].1 := by
  have e : wtext ps = wtext (ps.take i) ++ (le ps[i].2 ps[i].1 ++ wtext (ps.drop (i + 1))) := by
    have h1 : wtext (ps.take (i + 1)) = wtext (ps.take i) ++ le ps[i].2 ps[i].1 := by rw [List.take_succ_eq_append_getElem hi, wtext_app]; simp [wtext]
    rw [← List.append_assoc, ← h1, ← wtext_app, List.take_append_drop]
  rw [e, List.append_assoc, List.drop_left' (wtext_len _), List.append_assoc, List.take_left' (by rw [le_length])]
theorem sumW_take_succ {ps : List (Nat × Nat)} {i : Nat} (hi : i < ps.length) : sumW (ps.take (i + 1)) = sumW (ps.take i) + ps[i].1 := by
  rw [List.take_succ_eq_append_getElem hi, sumW_snoc]
theorem sumW_take_le (ps : List (Nat × Nat)) (i : Nat) : sumW (ps.take i) ≤ sumW ps := by
  have h := congrArg List.length (show wtext ps = wtext (ps.take i) ++ wtext (ps.drop i) by rw [← wtext_app, List.take_append_drop])
  rw [List.length_append, wtext_len, wtext_len] at h
  omega

theorem rest_str (l : List UInt8) (i : Nat) (hi : i ≤ l.length) (w : World) : (Instr.slice 9 (.string (S l)) (some (.int .i64 (i : Int))) none none).run Try.prog w = .ok (.string (S (l.drop i))) w := by
  rw [run_slice_string_from_if (P := Try.prog) w 9 (S l) .i64 (i : Int) Try.underlying9]
  rw [if_pos (by rw [S_size]; omega)]
  simp [S_extract]
  rw [S_size, List.take_of_length_le (by rw [List.length_drop]; omega)]

set_option maxRecDepth 100000 in
set_option maxHeartbeats 4000000 in
theorem refRead_ok (aw : Option Addr) (cw : Nat) (ps : List (Nat × Nat)) (rest : List UInt8) (w : World) (hsw : IntsW w aw ps) (hw : Wide ps) (hf : Fit ps) (hl : ps.length ≤ 1000) (hr : rest.length ≤ 1000000) :
    Calls Try.prog 66 #[.slice aw ps.length cw, .string (S (wtext ps ++ rest))] w fun e w' => (∃ ao c, e = .returned (.tuple #[.slice ao ps.length c, .string (S rest), .bool true]) ∧ NumsW w' ao ps) ∧ Below w.heap.size w w' := by
  obtain ⟨i0, hi, hz0, hz1, hz2⟩ := info_parts infoN
  have HW := Lib.hid hsw
  have hsl := sumW_le hw
  have hlen : (wtext ps ++ rest).length = sumW ps + rest.length := by rw [List.length_append, wtext_len]
  have hsz : (S (wtext ps ++ rest)).size = sumW ps + rest.length := by rw [S_size, hlen]
  have HPK := Lib.hid (fun i (hi : i < ps.length) => wtext_split (ps := ps) rest hi)
  have HDR := Lib.hid (show (wtext ps ++ rest).drop (sumW ps) = rest from List.drop_left' (wtext_len _))
  have HLN := Lib.hid hlen
  clear hsw hlen
  obtain ⟨s, hs⟩ : ∃ s, s = wtext ps ++ rest := ⟨_, rfl⟩
  rw [← hs] at hsz HPK HDR HLN ⊢
  clear hs
  have hsum : sumW ps ≤ 8000 := by omega
  go_enter Try.func66, Try.ntmps66
  go_wp2_with fail
  go_loopw [7, 8, 9] (fun v a i wr => ∃ j : Nat, i = .int .i64 j ∧ a = .int .i64 (sumW (ps.take j) : Nat) ∧ j ≤ ps.length ∧ Hid (wr.ownsRow w.heap.size 47 1 v j (numsV (ps.take j))) ∧ Hid (Below w.heap.size w wr)) (fun _ _ i _ => ps.length - (intOf i).toNat)
  case atStart => exact ⟨0, rfl, by simp [sumW], Nat.zero_le _, Lib.hid (World.ownsRow_nil _ _ _ _), Lib.hid (Below.refl _ _)⟩
  case round =>
    obtain ⟨j, rfl, rfl, hj, HO, HB⟩ := hrel
    have hj0 : (0 : Int) ≤ (j : Int) := Int.natCast_nonneg _
    have hzr := HB.out.size
    by_cases hjl : j < ps.length
    · have hj1 : (j : Int) < (ps.length : Int) := by omega
      obtain ⟨b1, o1, rfl, hb1, t1⟩ := numIntsW HW.out j hjl
      have q1 := (cell_below HB.out hb1 _).trans t1
      have hpw := hw _ (List.getElem_mem hjl)
      have hpf := hf _ (List.getElem_mem hjl)
      have hpk := HPK.out j hjl
      have hst := sumW_take_succ hjl
      have hsl2 := sumW_take_le ps (j + 1)
      have HNV := Lib.hid (show numsV (ps.take j) ++ [.int .u64 ps[j].2] = numsV (ps.take (j + 1)) by rw [List.take_succ_eq_append_getElem hjl, numsV_snoc])
      have HST := Lib.hid hst
      rw [hst] at hsl2
      clear t1
      generalize ps[j] = p at *
      obtain ⟨pw, pn⟩ := p
      dsimp only at q1 hpw hpf hpk hsl2 HNV HST
      obtain ⟨hpw1, hpw8⟩ := hpw
      generalize sumW (ps.take j) = sm at *
      have hsub := fun w => sub_str s sm (sm + pw) (by omega) (by rw [HLN.out]; omega) w
      rw [show sm + pw - sm = pw by omega, hpk] at hsub
      have hny : numL (le pn pw) = pn := by rw [numL_le]; exact Nat.mod_eq_of_lt hpf
      have HNY := Lib.hid hny
      have hgl : (le pn pw).length ≤ 8 := by rw [le_length]; exact hpw8
      have e1 : (((sm + pw : Nat)) : Int) = (sm : Int) + (pw : Int) := by omega
      rw [e1] at hsub
      generalize le pn pw = L at *
      have hc1 : ¬ (pw : Int) < 1 := by omega
      have hc2 : ¬ (8 : Int) < (pw : Int) := by omega
      have hc3 : ¬ (((sumW ps : Nat) : Int) + ((rest.length : Nat) : Int) - (sm : Int)) < (pw : Int) := by omega
      clear hst hpk hny hpf e1
      go_wp2_with fail
      refine (refGet_any L hgl wr).mono ?_
      rintro e w3 ⟨rfl, hB3⟩
      rw [HNY.out]
      have HO3 := Lib.hid (own_below HO.out hB3)
      have HL3 := Lib.hid (HB.out.trans (hB3.mono hzr))
      have hz3 := HL3.out.size
      clear hB3 hsub HO HB
      go_wp2_with (at_builtin; go_must (refine wpList_append_own_at _ rfl _ _ 126 rfl w.heap.size 47 i0 (.int .u64 0) 1 8 Try.underlying126 hi hz0 hz1 hz2 rfl (by decide) _ j _ rfl (HO3.out.alloc _) ⟨w3.heap.size, 0, none⟩ 1 1 [.int .u64 pn] rfl rfl (cell_one_at _ _ rfl _ _) (fun u hu => by rw [List.mem_singleton.1 hu]; rfl) (by unfold maxLen; omega) (by omega) (by rw [World.size_alloc]; omega) ?_; intro vz wz hownz hgrowz hnilz hatz; rw [HNV.out] at hownz; have HOZ := Lib.hid hownz; have HGZ := Lib.hid (show Below w.heap.size w wz from below_grown (HL3.out.alloc hz3 _) hgrowz (fun k e => (HO3.out.lt k e).1) (by rw [World.size_alloc]; omega)); clear hownz hgrowz hnilz hatz))
      exact ⟨⟨j + 1, by go_num, by rw [HST.out]; go_num, by omega, HOZ, HGZ⟩, by simp [intOf]; omega⟩
    · obtain rfl : j = ps.length := by omega
      rw [List.take_length] at HO
      rw [List.take_length]
      have hend := fun w => rest_str s (sumW ps) (by rw [HLN.out]; omega) w
      rw [HDR.out] at hend
      obtain ⟨ao, c, rfl, hn⟩ := nums_of_own HO.out
      have HN := Lib.hid hn
      have HBd := Lib.hid (below_drew' HB.out)
      clear hn
      go_upto_region 12 with (fail)
      go_region
      all_goals
        go_wp2_with fail
        go_ret3
        exact ⟨⟨ao, c, rfl, HN.out.kept (below_drew' (Below.refl _ _)) (Nat.le_refl _)⟩, HBd.out⟩

set_option maxRecDepth 100000 in
set_option maxHeartbeats 4000000 in
theorem refRead_short (aw : Option Addr) (cw : Nat) (ps : List (Nat × Nat)) (s : List UInt8) (w : World) (hsw : IntsW w aw ps) (hw : Wide ps) (hl : ps.length ≤ 1000) (hs : s.length < sumW ps) :
    Calls Try.prog 66 #[.slice aw ps.length cw, .string (S s)] w fun e w' => e = .returned (.tuple #[.slice none 0 0, .string (S []), .bool false]) ∧ Below w.heap.size w w' := by
  obtain ⟨i0, hi, hz0, hz1, hz2⟩ := info_parts infoN
  have HW := Lib.hid hsw
  have hsl := sumW_le hw
  have hsum : sumW ps ≤ 8000 := by omega
  have HS := Lib.hid hs
  have hsz : (S s).size = s.length := S_size s
  have hs8 : s.length ≤ 8000 := by omega
  clear hsw hs hsl
  go_enter Try.func66, Try.ntmps66
  go_wp2_with fail
  go_loopw [7, 8, 9] (fun v a i wr => ∃ (j : Nat) (vs : List (Nat × Nat)), i = .int .i64 j ∧ a = .int .i64 (sumW (ps.take j) : Nat) ∧ j ≤ ps.length ∧ Hid (sumW (ps.take j) ≤ s.length) ∧ Hid (wr.ownsRow w.heap.size 47 1 v j (numsV vs)) ∧ Hid (Below w.heap.size w wr)) (fun _ _ i _ => ps.length - (intOf i).toNat)
  case atStart => exact ⟨0, [], rfl, by simp [sumW], Nat.zero_le _, Lib.hid (by simp [sumW]), Lib.hid (World.ownsRow_nil _ _ _ _), Lib.hid (Below.refl _ _)⟩
  case round =>
    obtain ⟨j, vs, rfl, rfl, hj, HSL, HO, HB⟩ := hrel
    have hj0 : (0 : Int) ≤ (j : Int) := Int.natCast_nonneg _
    have hzr := HB.out.size
    by_cases hjl : j < ps.length
    · have hj1 : (j : Int) < (ps.length : Int) := by omega
      obtain ⟨b1, o1, rfl, hb1, t1⟩ := numIntsW HW.out j hjl
      have q1 := (cell_below HB.out hb1 _).trans t1
      obtain ⟨hpw1, hpw8⟩ := hw _ (List.getElem_mem hjl)
      have HST := Lib.hid (sumW_take_succ hjl)
      have hsl2 := HSL.out
      clear t1
      generalize ps[j] = p at *
      obtain ⟨pw, pn⟩ := p
      dsimp only at q1 hpw1 hpw8 HST
      generalize sumW (ps.take j) = sm at *
      have hc1 : ¬ (pw : Int) < 1 := by omega
      have hc2 : ¬ (8 : Int) < (pw : Int) := by omega
      by_cases hfit : sm + pw ≤ s.length
      · have hsub := fun w => sub_str s sm (sm + pw) (by omega) hfit w
        rw [show sm + pw - sm = pw by omega] at hsub
        have hgl : ((s.drop sm).take pw).length ≤ 8 := by rw [List.length_take]; omega
        have e1 : (((sm + pw : Nat)) : Int) = (sm : Int) + (pw : Int) := by omega
        rw [e1] at hsub
        generalize (s.drop sm).take pw = L at *
        have hc3 : ¬ ((s.length : Int) - (sm : Int)) < (pw : Int) := by omega
        have HSN := Lib.hid (show sm + pw ≤ s.length from hfit)
        have HNV := Lib.hid (show numsV vs ++ [.int .u64 (numL L : Nat)] = numsV (vs ++ [(pw, numL L)]) by rw [numsV_snoc])
        clear e1 hfit
        go_wp2_with fail
        refine (refGet_any L hgl wr).mono ?_
        rintro e w3 ⟨rfl, hB3⟩
        have HO3 := Lib.hid (own_below HO.out hB3)
        have HL3 := Lib.hid (HB.out.trans (hB3.mono hzr))
        have hz3 := HL3.out.size
        generalize numL L = nL at *
        clear hB3 hsub HO HB
        go_wp2_with (at_builtin; go_must (refine wpList_append_own_at _ rfl _ _ 126 rfl w.heap.size 47 i0 (.int .u64 0) 1 8 Try.underlying126 hi hz0 hz1 hz2 rfl (by decide) _ j _ rfl (HO3.out.alloc _) ⟨w3.heap.size, 0, none⟩ 1 1 [.int .u64 nL] rfl rfl (cell_one_at _ _ rfl _ _) (fun u hu => by rw [List.mem_singleton.1 hu]; rfl) (by unfold maxLen; omega) (by omega) (by rw [World.size_alloc]; omega) ?_; intro vz wz hownz hgrowz hnilz hatz; rw [HNV.out] at hownz; have HOZ := Lib.hid hownz; have HGZ := Lib.hid (show Below w.heap.size w wz from below_grown (HL3.out.alloc hz3 _) hgrowz (fun k e => (HO3.out.lt k e).1) (by rw [World.size_alloc]; omega)); clear hownz hgrowz hnilz hatz))
        exact ⟨⟨j + 1, vs ++ [(pw, nL)], by go_num, by rw [HST.out]; go_num, by omega, Lib.hid (by rw [HST.out]; exact HSN.out), HOZ, HGZ⟩, by simp [intOf]; omega⟩
      · have hc3 : ((s.length : Int) - (sm : Int)) < (pw : Int) := by omega
        go_wp2_with fail
        go_ret3
        exact ⟨rfl, HB.out⟩
    · obtain rfl : j = ps.length := by omega
      rw [List.take_length] at HSL
      exact absurd HS.out (by have := HSL.out; omega)

end Go.Proofs.Ytlmlmkeomlehmaa
