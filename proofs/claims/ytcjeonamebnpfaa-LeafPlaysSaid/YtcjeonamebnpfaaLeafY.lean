/-
  The walk of LeafPlays.
-/
import Derived.Test.YtcjeonamebnpfaaTextF
import Derived.Test.YtcjeonamebnpfaaSameE
import Derived.Test.YtcjeonamebnpfaaRefM
import Derived.Test.YtcjeonamebnpfaaWakeE
import Derived.Test.YtcjeonamebnpfaaOpen
import Derived.Test.YtcjeonamebnpfaaLeafR
import Derived.Test.YtcjeonamebnpfaaLeafB
import Derived.Test.YtcjeonamebnpfaaLeafQ
namespace Go.Proofs.Ytcjeonamebnpfaa
open Go.RowKit
attribute [local go_sem ↓] Go.wp_at_zero Go.wp_at_succ

theorem LeafAt.grown {B p B' n : Nat} {l : List Ent} {w w' : World} {v : Value} {xs : List Value} (h : LeafAt B p l w) (hv : w.ownsRow B' 31 4 v n xs) (hg : w.grownBy w' v.ownBlock) (hp : p < B') : LeafAt B p l w' := by
  obtain ⟨⟨a, c, h1, h2, h3⟩, h4, h5, h6⟩ := h
  have hne : some p ≠ v.ownBlock := fun e => by have := (hv.lt p e.symm).1; omega
  exact ⟨⟨a, c, hg.cell h1 hne, h2.kept hg (own_types h2 hv (by decide)), h3⟩, (World.frozen?_of_block (hg.block p h5 hne)).trans h4, Nat.lt_of_lt_of_le h5 hg.size, h6⟩
theorem cell_four_at (w : World) (b : Nat) (hb : w.heap.size = b) (x y z u : Value) (t : TypeId) : ∀ j v, [x, y, z, u][j]? = some v → (w.alloc (.cells #[x, y, z, u] t)).cell? ((⟨b, 0, none⟩ : Addr).add j) = some v := by
  subst hb
  exact cell_four_new w x y z u t

set_option maxRecDepth 100000 in
set_option maxHeartbeats 8000000 in
theorem leafPlays_walk (v : Value) (l : List Upd) (k0 : List UInt8) (w : World) (hl : ArgUpds w v l) :
    Calls Try.prog 8 #[v, .string (S k0)] w fun e w' => e = .returned (.bool true) ∧ Below w.heap.size w w' := by
  obtain ⟨i0, hi, iz0, iz1, iz2⟩ := info_parts infoU
  have hmin := fun ts t a b w => run_tmin (P := Try.prog) ts t a b w
  have hm : tmin (l.length : Int) 25 = ((min l.length 25 : Nat) : Int) := tmin_nat _ 25
  obtain ⟨hform, hwf, hsize⟩ := hl
  obtain ⟨ao, c, rfl, hx, hc1, hc2, hn⟩ := hform
  generalize hM : min l.length 25 = m at *
  have hmx : m ≤ l.length := by omega
  have hm20 : m ≤ 25 := by omega
  have hcut := fun W => cut_itemsJ ao l.length c m hmx hc1 W
  go_enter Try.func8, Try.ntmps8
  go_wp2_with fail
  refine (thread (wakesE_any _) w.heap.size w (by go_grown) (by go_grown)).mono ?_
  rintro e w1 ⟨rfl, hB1, hk1, hf1, hs1, hz1⟩
  have hu1 : w.heap.size < w1.heap.size := by simp at hs1; omega
  have hI1 : LeafAt w.heap.size w.heap.size [] w1 := ⟨⟨none, 0, (hk1 w.heap.size 0 (by simp)).trans (by simp), World.ownsRow_nil _ _ _ _, by simp [Value.ownBlock]⟩, (hf1 w.heap.size 0 (by simp)).trans (by simp), hu1, Nat.le_refl _⟩
  clear hk1 hf1 hs1
  go_wp2_with fail
  go_loopw [28, 6, 7] (fun i mv av wr => ∃ (k : Nat) (us : List Upd), i = .int .i64 k ∧ k ≤ m ∧ us.length = k ∧ (∀ u ∈ us, u.Wf) ∧ LeafAt w.heap.size w.heap.size (onAll [] us) wr ∧ (∃ am cm, mv = .slice am (onAll [] us).length cm ∧ wr.ownsRow (w.heap.size + 1) 73 2 (.slice am (onAll [] us).length cm) (onAll [] us).length (cellsE (onAll [] us))) ∧ wr.ownsRow (w.heap.size + 1) 31 4 av us.length (cellsU us) ∧ Below w.heap.size w wr) (fun i _ _ _ => m - (intOf i).toNat)
  case atStart => exact ⟨0, [], rfl, Nat.zero_le _, rfl, (fun u hu => by simp at hu), hI1, ⟨none, 0, rfl, World.ownsRow_nil _ _ _ _⟩, World.ownsRow_nil _ _ _ _, hB1⟩
  case round =>
    obtain ⟨k, us, rfl, hk, hus, huw, hP, ⟨am, cm, rfl, hMo⟩, hA, hB⟩ := hrel
    have hS := (SlE.of_row hMo).2
    have HM := Lib.hid hMo
    clear hMo
    have hk0 : (0 : Int) ≤ (k : Int) := Int.natCast_nonneg _
    obtain ⟨o1, o2, o3⟩ := onAll_ok [] List.Pairwise.nil (fun e he => by simp at he) us
    have hol : (onAll [] us).length ≤ 25 := by simp at o3; omega
    have HP := Lib.hid hP
    have HS := Lib.hid hS
    have HA := Lib.hid hA
    have HO := Lib.hid (And.intro o1 o2)
    obtain ⟨av, ac, ea⟩ := own_form hA
    subst ea
    have hzr := hP.lt
    clear hP hS hA o1 o2 o3
    by_cases hkm : k < m
    · have hk1 : (k : Int) < (m : Int) := by omega
      have hkl : k < l.length := by omega
      obtain ⟨hw1, hw2⟩ := hwf _ (List.getElem_mem hkl)
      obtain ⟨hu1', hu2⟩ := hsize _ (List.getElem_mem hkl)
      obtain ⟨b, off, rfl, hb, t0, t1, t2, t3⟩ := SlAt.cells4 hx k hkl
      have q0 := (cell_below hB hb _).trans t0
      have q1 := (cell_below hB hb _).trans t1
      have q2 := (cell_below hB hb _).trans t2
      have q3 := (cell_below hB hb _).trans t3
      clear t0 t1 t2 t3
      generalize l[k] = u at *
      generalize hF : onAll [] us = F at *
      have HF := Lib.hid hF
      clear hF
      go_wp2_with fail
      refine (thread (of_upd u _ hu1' hu2) wr.heap.size wr (by go_grown) (by go_grown)).mono ?_
      rintro e w2 ⟨⟨T, hT, rfl⟩, hX2, -, -, hs2, hz2⟩
      have hTf := of_fits u ⟨hw1, hw2⟩
      rw [hT] at hTf
      obtain ⟨⟨hT1, hT2⟩, -, -⟩ := hTf
      have HP2 := Lib.hid (HP.out.on hX2)
      have HS2 := Lib.hid (HS.out.kept hX2 (Nat.le_refl _))
      have HA2 := Lib.hid (own_below HA.out hX2)
      have HM2 := Lib.hid (own_below HM.out hX2)
      have hB2 := hB.trans (hX2.mono hB.size)
      clear HP HS HA HM hX2 q0 q1 q2 q3 hT hs2
      have hGr := onE_rising HO.out.1 T
      have hGf := onE_fine HO.out.1 HO.out.2 T
      have hGl := onE_len HO.out.1 T
      have HG := Lib.hid (And.intro hGr hGf)
      have hGl2 : (onE F T).length ≤ 26 := by omega
      clear hGr hGf hGl
      go_wp2_with fail
      refine (thread (refEOn_own am _ cm F T.kind T.key T.val T.delta _ rfl (HS2.out.kept (by go_grown) (Nat.le_refl _)) HO.out.1 (by omega) hT1 hT2) w2.heap.size w2 (by go_grown) (by go_grown)).mono ?_
      rintro e w3 ⟨⟨nm, nc, rfl, hS3'⟩, hX3, hk3, -, hs3, hz3⟩
      have hMo3 : w3.ownsRow (w.heap.size + 1) 73 2 (.slice nm (onE F ⟨T.kind, T.key, T.val, T.delta⟩).length nc) (onE F ⟨T.kind, T.key, T.val, T.delta⟩).length (cellsE (onE F ⟨T.kind, T.key, T.val, T.delta⟩)) := by
        rcases hS3' with h | ⟨rfl, rfl, h⟩
        · exact own_base h (by simp; omega)
        · rw [h]; exact own_below HM2.out hX3
      have hS3 := (SlE.of_row hMo3).2
      have HM3 := Lib.hid hMo3
      clear hS3' hMo3
      have hs3' : w2.heap.size < w3.heap.size := by simp at hs3; omega
      have e0 : w3.cell? ⟨w2.heap.size, 0, none⟩ = some (.int .u8 T.kind) := (hk3 w2.heap.size 0 (by simp; omega)).trans (by simp)
      have e1 : w3.cell? ⟨w2.heap.size, 1, none⟩ = some (.string (S T.key)) := (hk3 w2.heap.size 1 (by simp; omega)).trans (by simp)
      have e2 : w3.cell? ⟨w2.heap.size, 2, none⟩ = some (.string (S T.val)) := (hk3 w2.heap.size 2 (by simp; omega)).trans (by simp)
      have e3 : w3.cell? ⟨w2.heap.size, 3, none⟩ = some (.int .u64 T.delta) := (hk3 w2.heap.size 3 (by simp; omega)).trans (by simp)
      have hP3 := HP2.out.on hX3
      have HP3 := Lib.hid hP3
      obtain ⟨⟨a, ca, p1, p2, -⟩, pf, pl, -⟩ := hP3
      have HS3 := Lib.hid (HS2.out.kept hX3 (Nat.le_refl _))
      have HN3 := Lib.hid hS3
      have HA3 := Lib.hid (own_below HA2.out hX3)
      have hB3 := hB2.trans (hX3.mono hB2.size)
      have HQ3 := Lib.hid (BoxE.of_own p2)
      have hng : (onE F T) = onE F ⟨T.kind, T.key, T.val, T.delta⟩ := rfl
      clear hk3 hs3 hS3 p2 hX3 HP2 HS2 HA2 HM2
      generalize hG : onE F ⟨T.kind, T.key, T.val, T.delta⟩ = G at *
      have hcall := leafOn_own (.agg #[.slice a F.length ca]) F (.slice (some ⟨w3.heap.size, 0, none⟩) 1 1) [T] (w3.alloc (.cells #[.int .u8 T.kind, .string (S T.key), .string (S T.val), .int .u64 T.delta] 31)) (HQ3.out.kept (by go_grown) (Nat.le_refl _)) (by omega) HO.out.1 HO.out.2 (slU_laid w3 _ _ [T] _ _ 1 rfl rfl rfl (by omega)) (fun x hx => by rw [List.mem_singleton] at hx; rw [hx]; exact ⟨hT1, hT2⟩) (by simp)
      rw [show onAll F [T] = G from hG] at hcall
      rw [hng] at HG hGl2
      have HC := Lib.hid hcall
      clear hcall hng
      go_wp2_with fail
      refine (thread (HC.out) w3.heap.size w3 (by go_grown) (by go_grown)).mono ?_
      rintro e w4 ⟨⟨ga, gc, rfl, hob4⟩, hX4, -, -, -, hz4⟩
      have p4 := kept_cell hX4 p1
      have f0 := kept_cell hX4 e0
      have f1 := kept_cell hX4 e1
      have f2 := kept_cell hX4 e2
      have f3 := kept_cell hX4 e3
      have HP4 := Lib.hid (HP3.out.on hX4)
      have HS4 := Lib.hid (HS3.out.kept hX4 (Nat.le_refl _))
      have HN4 := Lib.hid (HN3.out.kept hX4 (Nat.le_refl _))
      have HA4 := Lib.hid (own_below HA3.out hX4)
      have HQ4 := Lib.hid (HQ3.out.kept hX4 (Nat.le_refl _))
      have hb4 := BoxE.of_own hob4
      have HB4 := Lib.hid hb4
      have HV4 := Lib.hid (own_base (B' := w.heap.size + 1) hob4 (by simp; omega))
      have HM4 := Lib.hid (own_below HM3.out hX4)
      have hB4 := hB3.trans (hX4.mono hB3.size)
      clear HC hb4 hob4 HM3 hX4 HP3 HS3 HN3 HA3 HQ3 e0 e1 e2 e3 p1 pf pl
      have p5 := cell_past (.cells #[.slice ga G.length gc] 45) p4
      go_wp2_with fail
      refine (thread (sameE_any a F.length ca am cm F _ rfl (HQ4.out.kept (by go_grown) (Nat.le_refl _)) (HS4.out.kept (by go_grown) (Nat.le_refl _)) (by omega) HO.out.1) w4.heap.size w4 (by go_grown) (by go_grown)).mono ?_
      rintro e w5 ⟨rfl, hX5, hk5, -, hs5, hz5⟩
      have hs5' : w4.heap.size < w5.heap.size := by simp at hs5; omega
      have g0 : w5.cell? ⟨w4.heap.size, 0, none⟩ = some (.slice ga G.length gc) := (hk5 w4.heap.size 0 (by simp)).trans (by simp)
      have p6 := kept_cell hX5 p4
      have f0 := kept_cell hX5 f0
      have f1 := kept_cell hX5 f1
      have f2 := kept_cell hX5 f2
      have f3 := kept_cell hX5 f3
      have HP5 := Lib.hid (HP4.out.on hX5)
      have HN5 := Lib.hid (HN4.out.kept hX5 (Nat.le_refl _))
      have HA5 := Lib.hid (own_below HA4.out hX5)
      have HB5 := Lib.hid (HB4.out.kept hX5 (Nat.le_refl _))
      have hB5 := hB4.trans (hX5.mono hB4.size)
      have HV5 := Lib.hid (own_below HV4.out hX5)
      have HM5 := Lib.hid (own_below HM4.out hX5)
      clear hk5 hs5 hX5 HV4 HM4 HP4 HN4 HA4 HB4 HS4 HQ4 p4 p5
      go_wp2_with fail
      refine (thread (sameE_any ga G.length gc nm nc G _ rfl HB5.out HN5.out (by omega) HG.out.1) w5.heap.size w5 (by go_grown) (by go_grown)).mono ?_
      rintro e w6 ⟨rfl, hX6, -, -, -, hz6⟩
      have g1 := kept_cell hX6 g0
      have p7 := kept_cell hX6 p6
      have f0 := kept_cell hX6 f0
      have f1 := kept_cell hX6 f1
      have f2 := kept_cell hX6 f2
      have f3 := kept_cell hX6 f3
      have HP6 := Lib.hid (HP5.out.on hX6)
      have HN6 := Lib.hid (HN5.out.kept hX6 (Nat.le_refl _))
      have HA6 := Lib.hid (own_below HA5.out hX6)
      have HB6 := Lib.hid (HB5.out.kept hX6 (Nat.le_refl _))
      have hB6 := hB5.trans (hX6.mono hB5.size)
      have HV6 := Lib.hid (own_below HV5.out hX6)
      have HM6 := Lib.hid (own_below HM5.out hX6)
      have fz6 := HP6.out.free
      have hlt6 := HP6.out.lt
      clear hX6 HV5 HM5 HP5 HN5 HA5 HB5 g0 p6
      have hw2 : w.heap.size < w2.heap.size := by omega
      have hoo := ownsRow_setCell_other (a := ⟨w.heap.size, 0, none⟩) HA6.out (fun e => by have h : w.heap.size + 1 ≤ w.heap.size := (HA6.out.lt _ e).1; omega) (.slice ga G.length gc)
      rw [hus] at hoo
      have HOO := Lib.hid hoo
      have HX6 := Lib.hid (LeafAt.put rfl p7 fz6 (own_base (B' := w.heap.size) HV6.out (by omega)) (fun e => by have h : w.heap.size + 1 ≤ w.heap.size := (HV6.out.lt _ e).1; omega) hlt6 (Nat.le_refl _))
      have HMs := Lib.hid (ownsRow_setCell_other (a := ⟨w.heap.size, 0, none⟩) HM6.out (fun e => by have h : w.heap.size + 1 ≤ w.heap.size := (HM6.out.lt _ e).1; omega) (.slice ga G.length gc))
      have hBs := hB6.setCell (p := ⟨w.heap.size, 0, none⟩) (Nat.le_refl _) (.slice ga G.length gc)
      have k0' := fun o (v : Value) (h : w6.cell? ⟨w2.heap.size, o, none⟩ = some v) => far_block (u := .slice ga G.length gc) (o' := 0) (b' := w.heap.size) (show w2.heap.size ≠ w.heap.size by omega) h
      have f0 := k0' 0 _ f0
      have f1 := k0' 1 _ f1
      have f2 := k0' 2 _ f2
      have f3 := k0' 3 _ f3
      clear hoo k0' HA6 HV6 HM6 HB6 HN6 HP6
      have hzs : (w6.setCell ⟨w.heap.size, 0, none⟩ (.slice ga G.length gc)).heap.size = w6.heap.size := World.size_setCell ..
      have hz6' : w.heap.size + 1 ≤ w6.heap.size := by omega
      have hBa := (hBs.alloc (by rw [hzs]; omega) (.cells #[.int .u8 T.kind, .string (S T.key), .string (S T.val), .int .u64 T.delta] 31))
      go_wp2_with (at_builtin; go_must (refine wpList_append_own_at _ rfl _ _ 24 rfl (w.heap.size + 1) 31 i0 (.agg #[.int .u8 0, .string ByteArray.empty, .string ByteArray.empty, .int .u64 0]) 4 48 Try.underlying24 hi iz0 iz1 iz2 rfl (by decide) _ k _ rfl (HOO.out.alloc _) ⟨w6.heap.size, 0, none⟩ 1 1 [.int .u8 T.kind, .string (S T.key), .string (S T.val), .int .u64 T.delta] rfl rfl (cell_four_at _ _ hzs _ _ _ _ _) (four_oneCell _ _ _ _) (by unfold maxLen; omega) (by omega) (by simp; omega) ?_; intro v7 w7 hown7 hgrow7 _ _))
      have hL7 := (HX6.out.on (Below.alloc (Below.refl _ _) (Nat.le_refl _) (.cells #[.int .u8 T.kind, .string (S T.key), .string (S T.val), .int .u64 T.delta] 31))).grown (HOO.out.alloc _) hgrow7 (by omega)
      have hM7 := (HMs.out.alloc (.cells #[.int .u8 T.kind, .string (S T.key), .string (S T.val), .int .u64 T.delta] 31)).kept hgrow7 (own_types (HMs.out.alloc (.cells #[.int .u8 T.kind, .string (S T.key), .string (S T.val), .int .u64 T.delta] 31)) (HOO.out.alloc (.cells #[.int .u8 T.kind, .string (S T.key), .string (S T.val), .int .u64 T.delta] 31)) (by decide))
      have hB7 := below_grown hBa hgrow7 (fun j e => by have := (HOO.out.lt j e).1; omega) (by simp; omega)
      have hGn : onAll [] (us ++ [T]) = G := by rw [onAll_snoc, HF.out]; exact hG
      go_roundw
      (case rel => exact (⟨k + 1, us ++ [T], by go_num, by omega, by simp [hus], (fun x hx => (List.mem_append.1 hx).elim (huw x) (fun h => by rw [List.mem_singleton] at h; rw [h]; exact ⟨hT1, hT2⟩)), by rw [hGn]; exact hL7, ⟨nm, nc, by rw [hGn], by rw [hGn]; exact hM7⟩, by rw [cellsU_snoc, List.length_append, List.length_singleton, hus]; exact hown7, hB7⟩))
      (case measure => first | (simp [intOf]; done) | (simp [intOf]; omega))
    · obtain rfl : k = m := by omega
      obtain ⟨⟨a, ca, p1, p2, -⟩, pf, pl, -⟩ := HP.out
      have HQ := Lib.hid (BoxE.of_own p2)
      have HU := Lib.hid (SlU.of_own HA.out).2
      have hcallA := fun W h => leafOn_any (.agg #[.slice none 0 0]) [] (.slice av us.length ac) us W ⟨_, rfl, SlE.nil W⟩ (by decide) List.Pairwise.nil (fun e he => by simp at he) h huw (by omega)
      generalize onAll [] us = F at *
      obtain ⟨old, there, hlv⟩ : ∃ old there, valV (lookE F k0) = .tuple #[.string (S old), .bool there] := by
        cases lookE F k0 with
        | none => exact ⟨_, _, rfl⟩
        | some x => exact ⟨_, _, rfl⟩
      have hgetA := fun w h => getE_any (.agg #[.slice a F.length ca]) F k0 w h (by omega) HO.out.1
      have hgetB := fun w h => refEGet_any am cm F k0 w (by omega) h
      rw [hlv] at hgetA hgetB
      have hfs := HO.out.2
      have htx := fun w h => refEntText_any am cm F w (by omega) (fun u hu => by have := hfs u hu; omega) h
      rw [hus] at hcallA
      have HCA := Lib.hid hcallA
      have HGA := Lib.hid hgetA
      have HGB := Lib.hid hgetB
      have HTX := Lib.hid htx
      have HUU := Lib.hid (show SlU wr (.slice av k ac) us by have := HU.out; rwa [hus] at this)
      have hsat : ∀ W, Below wr.heap.size wr W → SlAt Ent.cells 2 W am F := fun W hb => by
        obtain ⟨x, y, e, h, -⟩ := HS.out.kept hb (Nat.le_refl _)
        simp only [Value.slice.injEq] at e
        obtain ⟨rfl, -, rfl⟩ := e
        exact h
      have HSA := Lib.hid hsat
      clear hcallA hgetA hgetB htx hlv hfs hsat p2 pf HP
      go_wp2_with fail
      refine (thread (leafText_any a _ ca F wr rfl HQ.out (by omega) HO.out.2) wr.heap.size wr (by go_grown) (by go_grown)).mono ?_
      rintro e w2 ⟨rfl, hX2, -, -, -, hz2⟩
      have p3 := kept_cell hX2 p1
      go_wp2_with fail
      refine (thread (HGA.out _ (HQ.out.kept hX2 (Nat.le_refl _))) wr.heap.size wr hX2 hz2).mono ?_
      rintro e w3 ⟨rfl, hX3, -, -, -, hz3⟩
      go_wp2_with fail
      refine (thread (HGB.out _ (HSA.out _ hX3)) wr.heap.size wr hX3 hz3).mono ?_
      rintro e w4 ⟨rfl, hX4, -, -, -, hz4⟩
      go_wp2_with fail
      refine (thread (HCA.out _ (HUU.out.kept hX4 (Nat.le_refl _))) wr.heap.size wr hX4 hz4).mono ?_
      rintro e w5 ⟨⟨b5, c5, rfl, hb5⟩, hX5, -, -, -, hz5⟩
      go_wp2_with fail
      refine (thread (sameE_any b5 F.length c5 am cm F w5 rfl hb5 (HS.out.kept hX5 (Nat.le_refl _)) (by omega) HO.out.1) wr.heap.size wr hX5 hz5).mono ?_
      rintro e w6 ⟨rfl, hX6, -, -, -, hz6⟩
      go_wp2_with fail
      refine (thread (HTX.out _ (HSA.out _ hX6)) wr.heap.size wr hX6 hz6).mono ?_
      rintro e w7 ⟨rfl, hX7, -, -, -, hz7⟩
      go_wp2_with fail
      go_ret
      exact ⟨rfl, hB.trans (hX7.mono hB.size)⟩

end Go.Proofs.Ytcjeonamebnpfaa
