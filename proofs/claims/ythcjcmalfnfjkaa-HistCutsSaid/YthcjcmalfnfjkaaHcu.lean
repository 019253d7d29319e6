/-
  The walk of HistCuts.
-/
import Derived.Test.YthcjcmalfnfjkaaHiw
import Derived.Test.YthcjcmalfnfjkaaHic
import Derived.Test.YthcjcmalfnfjkaaHof
import Derived.Test.YthcjcmalfnfjkaaZla
namespace Go.Proofs.Ythcjcmalfnfjkaa
open Go.RowKit Go.Maps Go.WideShapes Go.Shelf
set_option linter.unusedVariables false
attribute [local go_sem ↓] Go.wp_at_zero Go.wp_at_succ

/-- What is accepted. -/
def addStep (all : List Upd) (u : Upd) : List Upd := if errU (onAll [] all) (ofH u) = 0 then all ++ [ofH u] else all
def addsL (l : List Upd) : List Upd := l.foldl addStep []
theorem addsL_take (l : List Upd) (j : Nat) (hj : j < l.length) : addsL (l.take (j + 1)) = addStep (addsL (l.take j)) l[j] := by
  unfold addsL; rw [List.take_succ_eq_append_getElem hj, List.foldl_append]; rfl
theorem addStep_len (all : List Upd) (u : Upd) : all.length ≤ (addStep all u).length ∧ (addStep all u).length ≤ all.length + 1 := by
  unfold addStep; split
  · simp
  · omega
theorem addsL_len : ∀ (l : List Upd), (addsL l).length ≤ l.length := by
  intro l
  have : ∀ (l : List Upd) (a : List Upd), (l.foldl addStep a).length ≤ a.length + l.length := by
    intro l
    induction l with
    | nil => intro a; simp
    | cons u l ih => intro a; have := ih (addStep a u); have h2 := (addStep_len a u).2; simp only [List.foldl_cons, List.length_cons]; omega
  simpa [addsL] using this l []
theorem take_full {all : List Upd} {k : Nat} (u : Upd) (h : k ≤ all.length) : (addStep all u).take k = all.take k := by
  unfold addStep; split
  · rw [List.take_append_of_le_length h]
  · rfl
theorem take_more {all : List Upd} {k : Nat} (u : Upd) (h : all.length < k) : (addStep all u).take k = addStep all u := List.take_of_length_le (by have := (addStep_len all u).2; omega)
theorem underH : Try.prog.underlying 58 = some (.slice (Try.prog.elem 58)) := by rw [show Try.prog.elem 58 = 29 by kernel_rfl]; exact Try.underlying58
theorem sizeElemH (w : World) : (sizeOf (Try.prog.elem 58)).run Try.prog w = .ok 4 w := by kernel_rfl
theorem cut_H (ao : Option Addr) (n c i : Nat) (hin : i ≤ n) (hnc : n ≤ c) (w : World) : (Instr.slice 58 (.slice ao n c) none (some (.int .i64 (i : Int))) none).run Try.prog w = .ok (.slice ao i c) w := by
  rw [run_slice_h w 58 ao n c underH .i64 i (by omega) (by omega)]
  rw [sizeElemH]
  have e : ao.map (·.add 0) = ao := by cases ao <;> simp [Addr.add]
  simp [Result.andThen, sliced, e]

theorem his_cut (B h : Nat) (all : List Upd) (last n : Nat) (w0 w : World) (hb : Below B w0 w) (hB : B ≤ w.heap.size) (H : His w B h all last) (h1 : last ≤ n) (h2 : n ≤ all.length) :
    Calls Try.prog 13 #[.pointer (some ⟨h, 0, none⟩), .int .i64 (n : Nat)] w fun e w' => e = .returned (.int .i64 0) ∧ His w' B h (all.take n) n ∧ Below B w0 w' := by
  obtain ⟨S0, a, c, p, b, g1, g2⟩ := H
  refine (hisCut_any S0 h a c p b all last n w g1 h1 h2).mono ?_
  rintro e w' ⟨he, ⟨p', b', S', a', c', h3, h4⟩, ho⟩
  exact ⟨he, ⟨S', a', c', p', b', h3, fun i hi => by rcases h4 i hi with h5 | h5; exact g2 i h5; omega⟩, ho.below hb g2 hB⟩
theorem his_cut_no (B h : Nat) (all : List Upd) (last : Nat) (n : Int) (w : World) (H : His w B h all last) (hn : n < last ∨ (all.length : Int) < n) :
    Calls Try.prog 13 #[.pointer (some ⟨h, 0, none⟩), .int .i64 n] w fun e w' => e = .returned (.int .i64 3) ∧ Below w.heap.size w w' := by
  obtain ⟨S0, a, c, p, b, g1, g2⟩ := H
  exact hisCut_no S0 h a c p b all last n w g1 hn
/-- The first one is cut, the second one stands. -/
theorem his_cut_beside (B h : Nat) (all : List Upd) (last n B2 h2 : Nat) (all2 : List Upd) (last2 : Nat) (w0 wm w : World) (hb : Below B w0 w) (hB : B ≤ w.heap.size) (H : His wm B h all last) (hm : Below wm.heap.size wm w) (hB2 : B2 = wm.heap.size) (H2 : His w B2 h2 all2 last2) (h1 : last ≤ n) (h2' : n ≤ all.length) :
    Calls Try.prog 13 #[.pointer (some ⟨h, 0, none⟩), .int .i64 (n : Nat)] w fun e w' => e = .returned (.int .i64 0) ∧ His w' B h (all.take n) n ∧ His w' B2 h2 all2 last2 ∧ Below B w0 w' := by
  obtain ⟨S0, a, c, p, b, g1, g2⟩ := H
  obtain ⟨S2, a2, c2, p2, b2, k1, k2⟩ := H2
  refine (hisCut_any S0 h a c p b all last n w (g1.below hm) h1 h2').mono ?_
  rintro e w' ⟨he, ⟨p', b', S', a', c', h3, h4⟩, ho⟩
  exact ⟨he, ⟨S', a', c', p', b', h3, fun i hi => by rcases h4 i hi with h5 | h5; exact g2 i h5; omega⟩, ⟨S2, a2, c2, p2, b2, k1.off_kept ho (fun i hi hi2 => by have := g1.lt i hi2; have := k2 i hi; omega), k2⟩, ho.below hb g2 hB⟩

set_option maxRecDepth 100000 in
set_option maxHeartbeats 8000000 in
theorem histCuts_walk (v : Value) (l : List Upd) (t : Nat) (w : World) (hl : ArgUpds w v l) (ht : t < 256) :
    Calls Try.prog 5 #[v, .int .u8 t] w fun e w' => e = .returned (.bool true) ∧ Below w.heap.size w w' := by
  obtain ⟨hform, hwf, hsize⟩ := hl
  obtain ⟨ao, c, rfl, hsl, hc1, hc2, -⟩ := hform.form
  have hmin := fun ts t a b w => run_tmin (P := Try.prog) ts t a b w
  have hm1 : tmin (l.length : Int) 30 = ((min l.length 30 : Nat) : Int) := tmin_nat l.length 30
  obtain ⟨m, hm⟩ : ∃ m, m = min l.length 30 := ⟨_, rfl⟩
  rw [← hm] at hm1
  have hcut := fun w => cut_H ao l.length c m (by omega) hc1 w
  obtain ⟨L, hL⟩ : ∃ L, L = l.take m := ⟨_, rfl⟩
  have hLm : L.length = m := by rw [hL, List.length_take]; omega
  have HL := Lib.hid (show SlAt Upd.cells 4 w ao L by rw [hL]; exact take_at hsl m)
  have HW := Lib.hid (show ∀ u ∈ L, u.Wf by rw [hL]; exact fun u hu => hwf u (List.mem_of_mem_take hu))
  have HZ := Lib.hid (show ∀ u ∈ L, u.key.length ≤ 140737488355328 ∧ u.val.length ≤ 140737488355328 by rw [hL]; exact fun u hu => hsize u (List.mem_of_mem_take hu))
  have hm30 : m ≤ 30 := by omega
  clear hwf hsize hsl hform hL
  have HLm := Lib.hid hLm
  clear hLm hm
  go_enter Try.func5, Try.ntmps5
  go_wp2_with fail
  refine (his_new w).mono ?_
  rintro e w1 ⟨⟨h, rfl, h1⟩, hB⟩
  have H1 := Lib.hid h1
  have HB1 := Lib.hid hB
  clear h1 hB
  go_wp2_with fail
  go_loopw [30] (fun i wr => ∃ j : Nat, i = .int .i64 j ∧ j ≤ m ∧ Hid (His wr w.heap.size h (addsL (L.take j)) 0) ∧ Below w.heap.size w wr) (fun i _ => m - (intOf i).toNat)
  case atStart => exact ⟨0, rfl, Nat.zero_le _, Lib.hid (by simpa [addsL] using H1.out), HB1.out⟩
  case round =>
    obtain ⟨j, rfl, hj, HH, hB⟩ := hrel
    have hj0 : (0 : Int) ≤ (j : Int) := Int.natCast_nonneg _
    have hzr := hB.size
    by_cases hjm : j < m
    · have hj1 : (j : Int) < (m : Int) := by omega
      have hjl : j < L.length := by rw [HLm.out]; exact hjm
      obtain ⟨b, off, rfl, hb, t0, t1, t2, t3⟩ := SlAt.cells4 HL.out j hjl
      have q0 := (cell_below hB hb _).trans t0
      have q1 := (cell_below hB hb _).trans t1
      have q2 := (cell_below hB hb _).trans t2
      have q3 := (cell_below hB hb _).trans t3
      have HT := Lib.hid (addsL_take L j hjl)
      have hwf := HW.out _ (List.getElem_mem hjl)
      have hsz := HZ.out _ (List.getElem_mem hjl)
      have hfit := addsL_len (L.take j)
      rw [List.length_take] at hfit
      clear t0 t1 t2 t3
      generalize L[j] = u at *
      generalize addsL (L.take j) = A at *
      go_upto_region 5 with (fail)
      have hX : Below wr.heap.size wr (wr.alloc (.cells #[.int .u8 u.kind, .string (S u.key), .string (S u.val), .int .u64 u.delta] 29)) := by go_grown
      have HX := Lib.hid hX
      clear hX
      go_wp2_with fail
      refine (of_upd u _ hwf hsz.1 hsz.2).mono ?_
      rintro e w2 ⟨⟨T, hT, rfl⟩, hB2⟩
      have HB2 := Lib.hid (HX.out.trans (hB2.mono (by simp)))
      have HH2 := Lib.hid (HH.out.below HB2.out)
      have hfT := ofH_fits u hwf
      rw [hT] at hfT
      go_upto_region 6 with (fail)
      have hY : Below w2.heap.size w2 ((w2.alloc (.cells #[.int .u8 T.kind, .string (S T.key), .string (S T.val), .int .u64 T.delta] 36)).alloc (.cells #[.int .u8 T.kind, .string (S T.key), .string (S T.val), .int .u64 T.delta] 37)) := by go_grown
      have HY := Lib.hid (hB.trans ((HB2.out.trans (hY.mono HB2.out.size)).mono hzr))
      have HH3 := Lib.hid (HH2.out.below hY)
      clear hY HX
      go_wp2_with fail
      refine (his_add w.heap.size h A 0 T w _ HY.out HY.out.size HH3.out hfT.1 (by omega)).mono ?_
      rintro e w3 ⟨rfl, h3, hB3⟩
      have H3 := Lib.hid (show His w3 w.heap.size h (addStep A u) 0 from by unfold addStep; rw [hT]; exact h3)
      clear h3
      go_wp2_with fail
      exact ⟨⟨j + 1, by go_num, by omega, Lib.hid (by rw [HT.out]; exact H3.out), hB3⟩, by simp [intOf]; omega⟩
    · obtain rfl : j = m := by omega
      rw [show L.take j = L from by rw [← HLm.out, List.take_length]] at HH
      obtain ⟨wq, hwq⟩ : ∃ wq, wq = wr := ⟨_, rfl⟩
      subst hwq
      have hAl := addsL_len L
      rw [HLm.out] at hAl
      go_wp2_with fail
      refine (his_len w.heap.size h (addsL L) 0 wq HH.out).mono ?_
      rintro e w2 ⟨rfl, hB2⟩
      have H2 := Lib.hid (HH.out.below hB2)
      have HBq := Lib.hid (hB.trans (hB2.mono hzr))
      clear hB hB2 HH H1 HB1
      generalize hAA : addsL L = AA at *
      have HAA := Lib.hid hAA
      clear hAA
      go_upto_region 9 with (fail)
      obtain ⟨k, hk⟩ : ∃ k, k = t % (AA.length + 1) := ⟨_, rfl⟩
      have hkl : k ≤ AA.length := by have := Nat.mod_lt t (show 0 < AA.length + 1 by omega); omega
      have hmod : ((t : Nat) : Int).tmod ((AA.length : Int) + 1) = (k : Int) := by
        rw [Int.tmod_eq_emod_of_nonneg (by omega), hk]; norm_cast
      have hwr1 : IntKind.i64.wrap ((AA.length : Int) + 1) = (AA.length : Int) + 1 := IntWalk.i64_in _ (by omega)
      have hwt : IntKind.i64.wrap ((t : Nat) : Int) = ((t : Nat) : Int) := IntWalk.i64_in _ (by omega)
      have hwk : IntKind.i64.wrap ((k : Nat) : Int) = ((k : Nat) : Int) := IntWalk.i64_in _ (by omega)
      have hne0 : ¬ ((AA.length : Int) + 1 = 0) := by omega
      clear hk
      go_upto_region 10 with (fail)
      clear hmod hwr1 hwt hwk hne0
      go_wp2_with fail
      refine (his_new w2).mono ?_
      rintro e w4 ⟨⟨h2, rfl, g4⟩, hB4⟩
      have H4 := Lib.hid g4
      have HB4 := Lib.hid hB4
      clear g4 hB4
      go_wp2_with fail
      go_loopw [60, 14] (fun i v wr => ∃ q n : Nat, i = .int .i64 q ∧ q ≤ j ∧ v = .int .i64 n ∧ Hid (n = ((addsL (L.take q)).take k).length) ∧ Hid (His wr w2.heap.size h2 ((addsL (L.take q)).take k) 0) ∧ Below w2.heap.size w2 wr) (fun i _ _ => j - (intOf i).toNat)
      case atStart => exact ⟨0, 0, rfl, Nat.zero_le _, rfl, Lib.hid (by simp [addsL]), Lib.hid (by simpa [addsL] using H4.out), HB4.out⟩
      case round =>
        obtain ⟨q, n, rfl, hq, rfl, HN, HH, hB⟩ := hrel
        have hq0 : (0 : Int) ≤ (q : Int) := Int.natCast_nonneg _
        have hzr := hB.size
        by_cases hqj : q < j
        · have hq1 : (q : Int) < (j : Int) := by omega
          have hql : q < L.length := by rw [HLm.out]; exact hqj
          have HLq := Lib.hid (HL.out.kept HBq.out (Nat.le_refl _))
          obtain ⟨b, off, ea, hb, t0, t1, t2, t3⟩ := SlAt.cells4 HLq.out q hql
          subst ea
          have q0 := (cell_below hB hb _).trans t0
          have q1 := (cell_below hB hb _).trans t1
          have q2 := (cell_below hB hb _).trans t2
          have q3 := (cell_below hB hb _).trans t3
          have HT := Lib.hid (addsL_take L q hql)
          have hwf := HW.out _ (List.getElem_mem hql)
          have hsz := HZ.out _ (List.getElem_mem hql)
          have hfit := addsL_len (L.take q)
          rw [List.length_take] at hfit
          clear t0 t1 t2 t3 HLq
          generalize L[q] = u at *
          generalize addsL (L.take q) = A at *
          go_upto_region 14 with (fail)
          have hX : Below wr.heap.size wr (wr.alloc (.cells #[.int .u8 u.kind, .string (S u.key), .string (S u.val), .int .u64 u.delta] 29)) := by go_grown
          have HX := Lib.hid hX
          clear hX
          go_wp2_with fail
          refine (of_upd u _ hwf hsz.1 hsz.2).mono ?_
          rintro e w5 ⟨⟨T, hT, rfl⟩, hB5⟩
          have HB5 := Lib.hid (HX.out.trans (hB5.mono (by simp)))
          have HH2 := Lib.hid (HH.out.below HB5.out)
          have hfT := ofH_fits u hwf
          rw [hT] at hfT
          go_upto_region 15 with (fail)
          have hY : Below w5.heap.size w5 ((w5.alloc (.cells #[.int .u8 T.kind, .string (S T.key), .string (S T.val), .int .u64 T.delta] 36)).alloc (.cells #[.int .u8 T.kind, .string (S T.key), .string (S T.val), .int .u64 T.delta] 37)) := by go_grown
          have HY := Lib.hid (hB.trans ((HB5.out.trans (hY.mono HB5.out.size)).mono hzr))
          have HH3 := Lib.hid (HH2.out.below hY)
          clear hY HX
          by_cases hnk : n < k
          · have hnk' : (n : Int) < (k : Int) := by omega
            have hAk : A.length < k := by have := HN.out; rw [List.length_take] at this; omega
            have hAt : A.take k = A := List.take_of_length_le (by omega)
            have hnA := Lib.hid (show n = A.length by rw [HN.out, hAt])
            rw [hAt] at HH3
            clear hAt
            have HTk := Lib.hid (take_more u hAk)
            go_wp2_with fail
            refine (his_add w2.heap.size h2 A 0 T w2 _ HY.out HY.out.size HH3.out hfT.1 (by omega)).mono ?_
            rintro e w6 ⟨rfl, h6, hB6⟩
            by_cases hE : errU (onAll [] A) T = 0
            · have HA := Lib.hid (show addStep A u = A ++ [T] by unfold addStep; rw [hT, if_pos hE])
              have H6 := Lib.hid (show His w6 w2.heap.size h2 (addStep A u) 0 from by rw [HA.out]; rw [if_pos hE] at h6; exact h6)
              have HAn := Lib.hid (show n + 1 = (addStep A u).length by rw [HA.out, hnA.out]; simp)
              rw [hE]
              clear h6 hE
              go_wp2_with fail
              exact ⟨⟨q + 1, n + 1, by go_num, by omega, by go_num, Lib.hid (by rw [HT.out, HTk.out]; exact HAn.out), Lib.hid (by rw [HT.out, HTk.out]; exact H6.out), hB6⟩, by simp [intOf]; omega⟩
            · have HA := Lib.hid (show addStep A u = A by unfold addStep; rw [hT, if_neg hE])
              have H6 := Lib.hid (show His w6 w2.heap.size h2 (addStep A u) 0 from by rw [HA.out]; rw [if_neg hE] at h6; exact h6)
              have hE' : ¬ ((errU (onAll [] A) T : Nat) : Int) = 0 := by omega
              clear h6 hE
              go_wp2_with fail
              exact ⟨⟨q + 1, n, by go_num, by omega, rfl, Lib.hid (by rw [HT.out, HTk.out, HA.out]; exact hnA.out), Lib.hid (by rw [HT.out, HTk.out]; exact H6.out), hB6⟩, by simp [intOf]; omega⟩
          · have hnk' : ¬ (n : Int) < (k : Int) := by omega
            have hkA : k ≤ A.length := by have := HN.out; rw [List.length_take] at this; omega
            have HTk := Lib.hid (take_full u hkA)
            go_wp2_with fail
            exact ⟨⟨q + 1, n, by go_num, by omega, rfl, Lib.hid (by rw [HT.out, HTk.out]; exact HN.out), Lib.hid (by rw [HT.out, HTk.out]; exact HH3.out), HY.out⟩, by simp [intOf]; omega⟩
        · obtain rfl : q = j := by omega
          obtain ⟨wz, hwz⟩ : ∃ wz, wz = wr := ⟨_, rfl⟩
          subst hwz
          have HX := Lib.hid (show (addsL (L.take q)).take k = AA.take k by rw [show L.take q = L from by rw [← HLm.out, List.take_length], HAA.out])
          have HG := Lib.hid (show His wz w2.heap.size h2 (AA.take k) 0 from by rw [← HX.out]; exact HH.out)
          have hAk : (AA.take k).length = k := by rw [List.length_take]; omega
          have HAk := Lib.hid hAk
          have HBz := Lib.hid hB
          clear HH HX HN hB hAk H4 HB4
          go_wp2_with fail
          refine (his_sync w2.heap.size h2 (AA.take k) 0 w2 wz HBz.out HBz.out.size HG.out).mono ?_
          rintro e w7 ⟨rfl, g7, hB7⟩
          rw [HAk.out] at g7
          have H7 := Lib.hid g7
          have HB7 := Lib.hid hB7
          clear g7 hB7 HG HBz
          go_wp2_with fail
          refine (wakes29 w7).mono ?_
          rintro e w8 ⟨rfl, hB8⟩
          have H8 := Lib.hid (H7.out.below hB8)
          have HB8 := Lib.hid (HB7.out.trans (hB8.mono HB7.out.size))
          clear hB8 H7 HB7
          go_wp2_with fail
          refine (his_cut_beside w.heap.size h AA 0 k w2.heap.size h2 (AA.take k) k w w2 w8 (HBq.out.trans (HB8.out.mono HBq.out.size)) (Nat.le_trans HBq.out.size HB8.out.size) H2.out HB8.out rfl H8.out (Nat.zero_le _) hkl).mono ?_
          rintro e w9 ⟨rfl, g9, g9', hB9⟩
          have H9 := Lib.hid g9
          have G9 := Lib.hid g9'
          have HB9 := Lib.hid hB9
          clear g9 g9' hB9 H8 HB8 H2 HBq
          go_wp2_with fail
          refine (his_len w.heap.size h (AA.take k) k w9 H9.out).mono ?_
          rintro e w10 ⟨rfl, hB10⟩
          rw [HAk.out]
          have H10 := Lib.hid (H9.out.below hB10)
          have G10 := Lib.hid (G9.out.below hB10)
          have HB10 := Lib.hid (HB9.out.trans (hB10.mono HB9.out.size))
          clear hB10 H9 G9 HB9
          go_wp2_with fail
          refine (his_len w2.heap.size h2 (AA.take k) k w10 G10.out).mono ?_
          rintro e w11 ⟨rfl, hB11⟩
          rw [HAk.out]
          have H11 := Lib.hid (H10.out.below hB11)
          have G11 := Lib.hid (G10.out.below hB11)
          have HB11 := Lib.hid (HB10.out.trans (hB11.mono HB10.out.size))
          clear hB11 H10 G10 HB10
          go_wp2_with fail
          refine (his_now w.heap.size h (AA.take k) k w11 H11.out).mono ?_
          rintro e w12 ⟨⟨p1, b1, rfl, -, -, m1⟩, hB12⟩
          have H12 := Lib.hid (H11.out.below hB12)
          have G12 := Lib.hid (G11.out.below hB12)
          have M12 := Lib.hid m1
          have HB12 := Lib.hid (HB11.out.trans (hB12.mono HB11.out.size))
          clear hB12 H11 G11 HB11 m1
          go_wp2_with fail
          refine (his_now w2.heap.size h2 (AA.take k) k w12 G12.out).mono ?_
          rintro e w13 ⟨⟨p2, b2, rfl, -, -, m2⟩, hB13⟩
          have H13 := Lib.hid (H12.out.below hB13)
          have M13 := Lib.hid (M12.out.below hB13)
          have N13 := Lib.hid m2
          have HB13 := Lib.hid (HB12.out.trans (hB13.mono HB12.out.size))
          clear hB13 H12 G12 M12 HB12 m2
          have hfin := (onAll_fit (AA.take k)).2.2
          rw [HAk.out] at hfin
          generalize onAll [] (AA.take k) = E at *
          go_wp2_with fail
          refine (modScan_any p2 b2 E 1000 w13 N13.out (by omega) (by decide)).mono ?_
          rintro e w14 ⟨⟨v, rfl, hrow⟩, hB14⟩
          rw [List.take_of_length_le (by omega : E.length ≤ 1000)] at hrow
          obtain ⟨hn, hse⟩ := SlE.of_own hrow
          obtain ⟨a1, c1, rfl, hs1, -⟩ := hse
          have H14 := Lib.hid (H13.out.below hB14)
          have M14 := Lib.hid (M13.out.below hB14)
          have HS14 := Lib.hid hs1
          have HB14 := Lib.hid (HB13.out.trans (hB14.mono HB13.out.size))
          clear hB14 H13 M13 N13 HB13 hrow hs1 hn
          go_wp2_with fail
          refine (modEq_any p1 b1 E a1 c1 E w14 M14.out HS14.out (by omega) (by omega)).mono ?_
          rintro e w15 ⟨rfl, hB15⟩
          rw [show decide (E = E) = true by simp]
          have H15 := Lib.hid (H14.out.below hB15)
          have HB15 := Lib.hid (HB14.out.trans (hB15.mono HB14.out.size))
          clear hB15 H14 M14 HS14 HB14
          go_wp2_with fail
          refine (his_cut w.heap.size h (AA.take k) k k w w15 HB15.out HB15.out.size H15.out (Nat.le_refl _) (by rw [HAk.out]; exact Nat.le_refl _)).mono ?_
          rintro e w16 ⟨rfl, g16, hB16⟩
          have H16 := Lib.hid g16
          have HB16 := Lib.hid hB16
          clear g16 hB16 H15 HB15
          have hwk1 : IntKind.i64.wrap ((k : Int) + 1) = (k : Int) + 1 := IntWalk.i64_in _ (by omega)
          go_wp2_with fail
          refine (his_cut_no w.heap.size h ((AA.take k).take k) k ((k : Int) + 1) w16 H16.out (Or.inr (by rw [List.take_take, Nat.min_self, HAk.out]; omega))).mono ?_
          rintro e w17 ⟨rfl, hB17⟩
          have HB17 := Lib.hid (HB16.out.trans (hB17.mono HB16.out.size))
          go_wp2_with fail
          go_ret
          exact ⟨rfl, HB17.out⟩

end Go.Proofs.Ythcjcmalfnfjkaa
