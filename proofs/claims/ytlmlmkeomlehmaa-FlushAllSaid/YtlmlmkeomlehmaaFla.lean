/-
  The walk of FlushAll.
-/
import Derived.Test.YtlmlmkeomlehmaaWkf
import Derived.Test.YtlmlmkeomlehmaaFap
namespace Go.Proofs.Ytlmlmkeomlehmaa
open Go.RowKit
attribute [local go_sem ↓] Go.wp_at_zero Go.wp_at_succ

theorem kept_frozen {w w' : World} {b o o' : Nat} {v : Value} (hb : Below w.heap.size w w') (h : w.cell? ⟨b, o', none⟩ = some v) (hf : w.frozen? ⟨b, o, none⟩ = false) : w'.frozen? ⟨b, o, none⟩ = false :=
  ((bcell hb).2 b o (World.block_lt_of_cell? w _ h)).trans hf
/-- What the loop of FlushAll holds. -/
structure AllAt (C : List Chd) (N : Nat) (U : List Upd) (L G : Nat) : Prop where
  rise : Rising Upd.key U
  most : ∀ x ∈ cntAt C U, x ≤ (L : Int)
  sum : G + U.length = N
  last : L ≤ N + 1

theorem flush_next {w4 w12 W : World} {p n m x y n5 x5 m5 y5 : Nat} {a b a5 b5 : Option Addr} {t : TypeId} {C : List Chd} {O : List Upd} (hp : w4.heap.size ≤ p) (e0 : w12.cell? ⟨p, 0, none⟩ = some (.slice a n x)) (e1 : w12.cell? ⟨p, 1, none⟩ = some (.slice b m y))
    (HR : NodeAt w12 (.agg #[.slice a5 n5 x5, .slice b5 m5 y5]) C O) (hX : Below w4.heap.size w4 w12) (hW : W = ((w12.setCell ⟨p, 0, none⟩ (.slice a5 n5 x5)).setCell ⟨p, 1, none⟩ (.slice b5 m5 y5)).alloc (.cells #[.slice a5 n5 x5, .slice b5 m5 y5] t)) :
    w4.heap.size ≤ w12.heap.size ∧ W.cell? ⟨w12.heap.size, 0, none⟩ = some (.slice a5 n5 x5) ∧ W.cell? ⟨w12.heap.size, 1, none⟩ = some (.slice b5 m5 y5) ∧ W.frozen? ⟨w12.heap.size, 0, none⟩ = false ∧ W.frozen? ⟨w12.heap.size, 1, none⟩ = false ∧ Hid (NodeAt W (.agg #[.slice a5 n5 x5, .slice b5 m5 y5]) C O) ∧ Below w4.heap.size w4 W := by
  subst hW
  have e1' : (w12.setCell ⟨p, 0, none⟩ (.slice a5 n5 x5)).cell? ⟨p, 1, none⟩ = some (.slice b m y) := (World.cell?_setCell_other _ _ _ _ (addr_ne (Or.inr (by decide)))).trans e1
  refine ⟨hX.size, ?_, ?_, ?_, ?_, Lib.hid (((HR.setAt e0 _).setAt e1' _).kept ((Below.refl _ _).alloc (Nat.le_refl _) _) (Nat.le_refl _)), ((hX.setCell (p := ⟨p, 0, none⟩) hp _).setCell (p := ⟨p, 1, none⟩) hp _).alloc (by simp only [World.size_setCell]; exact hX.size) _⟩
  · rw [World.cell?_alloc_at _ _ _ _ (by simp)]; rfl
  · rw [World.cell?_alloc_at _ _ _ _ (by simp)]; rfl
  · rw [World.frozen?_alloc_at _ _ _ _ (by simp)]
  · rw [World.frozen?_alloc_at _ _ _ _ (by simp)]

set_option maxRecDepth 100000 in
set_option maxHeartbeats 16000000 in
theorem flushAll_walk (ao : Option Addr) (c : Nat) (lows : List (List UInt8)) (bo : Option Addr) (d : Nat) (l : List Int) (w : World) (hs : StrAt w ao lows) (hc : lows.length ≤ c) (hsl : ∀ s ∈ lows, s.length ≤ 140737488355328)
    (hb : SlAt (fun x : Int => [Value.int .u8 x]) 1 w bo l) (hd : l.length ≤ d) (hx : ∀ x ∈ l, 0 ≤ x ∧ x < 256) :
    Calls Try.prog 8 #[.slice ao lows.length c, .slice bo l.length d] w fun e w' => e = .returned (.bool true) ∧ Below w.heap.size w w' := by
  have hmin := fun ts t a b w => run_tmin (P := Try.prog) ts t a b w
  have hm : tmin (l.length : Int) 60 = ((min l.length 60 : Nat) : Int) := tmin_nat _ 60
  generalize hM : min l.length 60 = m at *
  have hmx : m ≤ l.length := by omega
  have hm60 : m ≤ 60 := by omega
  have hcut := fun W => cut_bytesD bo l.length d m hmx hd W
  have hlt : (l.take m).length = m := by rw [List.length_take]; omega
  have hxx : ∀ x ∈ l.take m, 0 ≤ x ∧ x < 256 := fun x hx' => hx x (List.mem_of_mem_take hx')
  have hbc := hb.cut m
  clear hb hx hM
  generalize l.take m = L at *
  subst hlt
  have HSP := Lib.hid (fun W h => spread_any bo d L W h (by omega) hxx)
  have HS := Lib.hid hs
  have HB := Lib.hid hbc
  clear hs hbc hxx
  go_enter Try.func8, Try.ntmps8
  go_wp2_with fail
  refine (thread (HSP.out _ (HB.out.kept (by go_grown) (Nat.le_refl _))) w.heap.size w (by go_grown) (by go_grown)).mono ?_
  rintro e w1 ⟨⟨v1, rfl, ho1⟩, hB1, hk1, -, hs1, hz1⟩
  obtain ⟨a1, d1, rfl, hof⟩ := of_spread ao c lows v1 _ L _ w1 (HS.out.kept hB1 (Nat.le_refl _)) hc hsl ho1
  have HOF := Lib.hid hof
  clear hof ho1
  go_wp2_with fail
  refine (thread HOF.out w1.heap.size w1 (by go_grown) (by go_grown)).mono ?_
  rintro e w2 ⟨⟨va, vb, rfl, hva, hvb⟩, hX2, -, -, -, hz2⟩
  obtain ⟨a2, b2, y2, z2, rfl, hc2, hu2⟩ := hva
  obtain ⟨a3, b3, y3, z3, rfl, -, -⟩ := hvb
  have HNA := Lib.hid (NodeAt.mk' hc2 hu2)
  have hB2 := hB1.trans (hX2.mono hz1)
  clear hc2 hu2 hX2
  have hCl : 0 < (kids lows).length ∧ (kids lows).length ≤ 21 := by rw [kids_len]; omega
  have hKO := Lib.hid (kids_ok lows)
  have hUl := all_len (sprTo L L.length)
  have hUr := Lib.hid (all_rise (sprTo L L.length))
  generalize kids lows = C at *
  generalize withAll (upds (sprTo L L.length)) = U at *
  clear HSP HS HB HOF hcut hm hmin
  go_wp2_with fail
  obtain ⟨W, hW_W⟩ : ∃ W, W = ((w2.alloc (.cells #[.slice a2 C.length y2, .slice b2 U.length z2] 31)).alloc (.cells #[.slice a3 C.length y3, .slice b3 U.length z3] 35)) := ⟨_, rfl⟩
  rw [← hW_W]
  have hX_W : Below w2.heap.size w2 W := by rw [hW_W]; go_grown
  have n0 : W.cell? ⟨w2.heap.size, 0, none⟩ = some (.slice a2 C.length y2) := by rw [hW_W, World.cell?_alloc_past _ _ _ (by simp <;> omega), World.cell?_alloc_at _ _ _ _ (by simp)]; rfl
  have n1 : W.cell? ⟨w2.heap.size, 1, none⟩ = some (.slice b2 U.length z2) := by rw [hW_W, World.cell?_alloc_past _ _ _ (by simp <;> omega), World.cell?_alloc_at _ _ _ _ (by simp)]; rfl
  have r0 : W.cell? ⟨w2.heap.size + 1, 0, none⟩ = some (.slice a3 C.length y3) := by rw [hW_W, World.cell?_alloc_at _ _ _ _ (by simp)]; rfl
  have r1 : W.cell? ⟨w2.heap.size + 1, 1, none⟩ = some (.slice b3 U.length z3) := by rw [hW_W, World.cell?_alloc_at _ _ _ _ (by simp)]; rfl
  clear hW_W
  have hz_W := hX_W.size
  replace HNA := Lib.hid (HNA.out.kept hX_W (Nat.le_refl _))
  replace hB2 := hB2.trans (hX_W.mono hB2.size)
  clear hX_W
  clear r0 r1
  go_wp2_with fail
  refine (thread (wakes20_any _) W.heap.size W (Below.refl _ _) (Nat.le_refl _)).mono ?_
  rintro e w3 ⟨rfl, hX_w3, -, -, -, hz_w3⟩
  replace n0 := kept_cell hX_w3 n0
  replace n1 := kept_cell hX_w3 n1
  replace HNA := Lib.hid (HNA.out.kept hX_w3 (Nat.le_refl _))
  replace hB2 := hB2.trans (hX_w3.mono hB2.size)
  clear hX_w3
  go_wp2_with fail
  refine WQ.region (C := fun w' => Below w3.heap.size w3 w') (by kernel_rfl) (by kernel_rfl) (below_drew' (Below.refl _ _)) ?_
  refine WQ.want (by rfl) (fun K hK => ?_)
  refine ⟨.pointer (some ⟨w2.heap.size, 1, none⟩), fun w' hw' => ?_, hK _ ?_⟩
  · have hq' := hw'
    go_simp
  clear hK K
  (try simp only [Act.put, List.setIfInBounds_toArray, List.set_cons_zero, List.set_cons_succ])
  refine WQ.want (by rfl) (fun K hK => ?_)
  refine ⟨.agg #[.slice b2 U.length z2], fun w' hw' => ?_, hK _ ?_⟩
  · have hq' := hw'
    have z0 := kept_cell hw' n1; go_simp
  clear hK K
  (try simp only [Act.put, List.setIfInBounds_toArray, List.set_cons_zero, List.set_cons_succ])
  refine WQ.want (by rfl) (fun K hK => ?_)
  refine ⟨.int .i64 U.length, fun w' hw' => ?_, hK _ ?_⟩
  · have hq' := hw'
    go_simp
    go_at_call 26
    refine (lenU_next b2 U.length z2 _).mono ?_
    rintro e w6 ⟨he, hb6⟩
    exact ⟨he, hq'.trans (hb6.mono hq'.size)⟩
  clear hK K
  (try simp only [Act.put, List.setIfInBounds_toArray, List.set_cons_zero, List.set_cons_succ])
  refine WQ.want (by rfl) (fun K hK => ?_)
  refine ⟨.pointer (some ⟨w2.heap.size, 1, none⟩), fun w' hw' => ?_, hK _ ?_⟩
  · have hq' := hw'
    go_simp
  clear hK K
  (try simp only [Act.put, List.setIfInBounds_toArray, List.set_cons_zero, List.set_cons_succ])
  refine WQ.want (by rfl) (fun K hK => ?_)
  refine ⟨.agg #[.slice b2 U.length z2], fun w' hw' => ?_, hK _ ?_⟩
  · have hq' := hw'
    have z0 := kept_cell hw' n1; go_simp
  clear hK K
  (try simp only [Act.put, List.setIfInBounds_toArray, List.set_cons_zero, List.set_cons_succ])
  refine WQ.want (by rfl) (fun K hK => ?_)
  refine ⟨.int .i64 U.length, fun w' hw' => ?_, hK _ ?_⟩
  · have hq' := hw'
    go_simp
    go_at_call 26
    refine (lenU_next b2 U.length z2 _).mono ?_
    rintro e w6 ⟨he, hb6⟩
    exact ⟨he, hq'.trans (hb6.mono hq'.size)⟩
  clear hK K
  (try simp only [Act.put, List.setIfInBounds_toArray, List.set_cons_zero, List.set_cons_succ])
  refine WQ.want (by rfl) (fun K hK => ?_)
  refine ⟨.int .i64 ((U.length : Int) + 1), fun w' hw' => ?_, hK _ ?_⟩
  · have hq' := hw'
    have z0 := kept_cell hw' n1; (have hw := IntWalk.i64_in ((U.length : Int) + 1) (by omega)); go_simp
  clear hK K
  (try simp only [Act.put, List.setIfInBounds_toArray, List.set_cons_zero, List.set_cons_succ])
  refine WQ.want (by rfl) (fun K hK => ?_)
  refine ⟨.int .i64 U.length, fun w' hw' => ?_, hK _ ?_⟩
  · have hq' := hw'
    go_simp
  clear hK K
  (try simp only [Act.put, List.setIfInBounds_toArray, List.set_cons_zero, List.set_cons_succ])
  refine WQ.want (by rfl) (fun K hK => ?_)
  refine ⟨.int .i64 ((U.length : Int) + 1), fun w' hw' => ?_, hK _ ?_⟩
  · have hq' := hw'
    go_simp
  clear hK K
  (try simp only [Act.put, List.setIfInBounds_toArray, List.set_cons_zero, List.set_cons_succ])
  refine WQ.done ?_
  rintro w4 hX_4
  replace n0 := kept_cell hX_4 n0
  replace n1 := kept_cell hX_4 n1
  replace HNA := Lib.hid (HNA.out.kept hX_4 (Nat.le_refl _))
  replace hB2 := hB2.trans (hX_4.mono hB2.size)
  clear hX_4
  go_wp2_with fail
  have HRN := Lib.hid HNA.out
  have hB5 := Below.refl w4.heap.size w4
  obtain ⟨W5, hW_W5⟩ : ∃ W5, W5 = (w4.alloc (.cells #[.slice a2 C.length y2, .slice b2 U.length z2] 31)) := ⟨_, rfl⟩
  rw [← hW_W5]
  have hX_W5 : Below w4.heap.size w4 W5 := by rw [hW_W5]; go_grown
  have m0 : W5.cell? ⟨w4.heap.size, 0, none⟩ = some (.slice a2 C.length y2) := by rw [hW_W5, World.cell?_alloc_at _ _ _ _ (by simp)]; rfl
  have m1 : W5.cell? ⟨w4.heap.size, 1, none⟩ = some (.slice b2 U.length z2) := by rw [hW_W5, World.cell?_alloc_at _ _ _ _ (by simp)]; rfl
  have mf0 : W5.frozen? ⟨w4.heap.size, 0, none⟩ = false := by rw [hW_W5, World.frozen?_alloc_at _ _ _ _ (by simp)]
  have mf1 : W5.frozen? ⟨w4.heap.size, 1, none⟩ = false := by rw [hW_W5, World.frozen?_alloc_at _ _ _ _ (by simp)]
  clear hW_W5
  have hz_W5 := hX_W5.size
  replace HRN := Lib.hid (HRN.out.kept hX_W5 (Nat.le_refl _))
  replace hB5 := hB5.trans (hX_W5.mono hB5.size)
  clear hX_W5
  have hA0 : Hid (AllAt C U.length U (U.length + 1) 0) := Lib.hid ⟨hUr.out, fun x hx => by
    obtain ⟨i, hi, rfl⟩ := List.getElem_of_mem hx
    have := (cntAt_le C U i hi).2
    omega, by omega, by omega⟩
  go_loopw [8, 9, 10] (fun s8 s9 s10 wr => ∃ (U' : List Upd) (La G p : Nat) (a : Option Addr) (y : Nat) (b : Option Addr) (z : Nat), s8 = .int .i64 La ∧ s9 = .int .i64 G ∧ s10 = .pointer (some ⟨p, 0, none⟩) ∧ Hid (AllAt C U.length U' La G) ∧ w4.heap.size ≤ p ∧ wr.cell? ⟨p, 0, none⟩ = some (.slice a C.length y) ∧ wr.cell? ⟨p, 1, none⟩ = some (.slice b U'.length z) ∧ wr.frozen? ⟨p, 0, none⟩ = false ∧ wr.frozen? ⟨p, 1, none⟩ = false ∧ Hid (NodeAt wr (.agg #[.slice a C.length y, .slice b U'.length z]) C U') ∧ Below w4.heap.size w4 wr) (fun _ g _ _ => U.length - (intOf g).toNat)
  case atStart => exact ⟨U, U.length + 1, 0, w4.heap.size, a2, y2, b2, z2, by go_num, rfl, rfl, hA0, Nat.le_refl _, m0, m1, mf0, mf1, HRN, hB5⟩
  case round =>
    obtain ⟨U', La, G, p, a, y, b, z, rfl, rfl, rfl, HA, hp, e0, e1, f0, f1, HM, hX⟩ := hrel
    obtain ⟨wo, hwo⟩ : ∃ wo, wo = wr := ⟨_, rfl⟩
    subst hwo
    have hU' : U'.length ≤ 60 := by have := HA.out.sum; omega
    have hG : G ≤ U.length := by have := HA.out.sum; omega
    have hLa : La ≤ 61 := by have := HA.out.last; omega
    have hG0 : (0 : Int) ≤ (G : Int) := Int.natCast_nonneg _
    have hL0 : (0 : Int) ≤ (La : Int) := Int.natCast_nonneg _
    have k0 := kept_cell hX n0
    have k1 := kept_cell hX n1
    have HN := Lib.hid (HNA.out.kept hX (Nat.le_refl _))
    have hB := hB2.trans (hX.mono hB2.size)
    have hzr := hX.size
    have hpr : p < wo.heap.size := World.block_lt_of_cell? wo _ e0
    clear m0 m1 mf0 mf1 HRN hB5
    obtain ⟨k, hkl, hk, hmx⟩ := top_one (cntAt C U') (by rw [cntAt_len]; omega)
    have hkC : k < C.length := by rw [← cntAt_len C U']; exact hkl
    have HK := Lib.hid (And.intro hk hmx)
    clear hk hmx
    by_cases hc1 : (cntAt C U')[k] < 1
    · have hu0 : U' = [] := cnt_none C U' (fun u _ => by obtain ⟨i, hi, hb⟩ := hKO.out.bel u.key; have := hb.lt; omega) (fun x hx => by have := HK.out.2 x hx; omega)
      have HST := Lib.hid (fun W h => step_none (.agg #[.slice a C.length y, .slice b U'.length z]) C U' W h (by omega) (by omega) k HK.out.1 hkl hc1)
      have hGU : G = U.length := by have := HA.out.sum; rw [hu0] at this; simpa using this
      have hl0 : U'.length = 0 := by rw [hu0]; rfl
      clear hu0 HA
      rw [hl0] at e1 HM HST
      clear hl0
      subst hGU
      go_wp2_with fail
      refine (thread (HST.out wo HM.out) wo.heap.size wo (Below.refl _ _) (Nat.le_refl _)).mono ?_
      rintro e w6 ⟨rfl, hX_w6, -, -, -, hz_w6⟩
      replace k0 := kept_cell hX_w6 k0
      replace k1 := kept_cell hX_w6 k1
      replace e0 := kept_cell hX_w6 e0
      replace e1 := kept_cell hX_w6 e1
      replace HN := Lib.hid (HN.out.kept hX_w6 (Nat.le_refl _))
      replace HM := Lib.hid (HM.out.kept hX_w6 (Nat.le_refl _))
      replace hB := hB.trans (hX_w6.mono hB.size)
      clear hX_w6
      go_upto_region 8 with (fail)
      obtain ⟨W7, hW_W7⟩ : ∃ W7, W7 = ((w6.alloc (.cells #[.slice none 0 0] 29)).alloc (.cells #[.slice none 0 0, .slice none 0 0] 31)) := ⟨_, rfl⟩
      rw [← hW_W7]
      have hX_W7 : Below w6.heap.size w6 W7 := by rw [hW_W7]; go_grown
      have q0 : W7.cell? ⟨w6.heap.size, 0, none⟩ = some (.slice none 0 0) := by rw [hW_W7, World.cell?_alloc_past _ _ _ (by simp <;> omega), World.cell?_alloc_at _ _ _ _ (by simp)]; rfl
      have r0 : W7.cell? ⟨w6.heap.size + 1, 0, none⟩ = some (.slice none 0 0) := by rw [hW_W7, World.cell?_alloc_at _ _ _ _ (by simp)]; rfl
      have r1 : W7.cell? ⟨w6.heap.size + 1, 1, none⟩ = some (.slice none 0 0) := by rw [hW_W7, World.cell?_alloc_at _ _ _ _ (by simp)]; rfl
      clear hW_W7
      have hz_W7 := hX_W7.size
      replace k0 := kept_cell hX_W7 k0
      replace k1 := kept_cell hX_W7 k1
      replace e0 := kept_cell hX_W7 e0
      replace e1 := kept_cell hX_W7 e1
      replace HN := Lib.hid (HN.out.kept hX_W7 (Nat.le_refl _))
      replace HM := Lib.hid (HM.out.kept hX_W7 (Nat.le_refl _))
      replace hB := hB.trans (hX_W7.mono hB.size)
      clear hX_W7
      clear q0 r0 r1
      go_wp2_with fail
      refine (thread (lenU_next b 0 z _) W7.heap.size W7 (Below.refl _ _) (Nat.le_refl _)).mono ?_
      rintro e w8 ⟨rfl, hX_w8, -, -, -, hz_w8⟩
      replace k0 := kept_cell hX_w8 k0
      replace k1 := kept_cell hX_w8 k1
      replace e0 := kept_cell hX_w8 e0
      replace e1 := kept_cell hX_w8 e1
      replace HN := Lib.hid (HN.out.kept hX_w8 (Nat.le_refl _))
      replace HM := Lib.hid (HM.out.kept hX_w8 (Nat.le_refl _))
      replace hB := hB.trans (hX_w8.mono hB.size)
      clear hX_w8
      by_cases h2 : 2 ≤ C.length
      · have hm0 : 0 < (C.length + 1) / 2 ∧ (C.length + 1) / 2 < C.length := by omega
        obtain ⟨hA1, hA2, hA3⟩ := halves_all hKO.out hUr.out hm0.1 hm0.2
        have HHV := Lib.hid (fun W h => halves_some (.agg #[.slice a2 C.length y2, .slice b2 U.length z2]) C U W h h2 (by omega) (by omega) hUr.out ((C.length + 1) / 2) rfl)
        generalize hMm : (C.length + 1) / 2 = M at *
        have hlt1 : (C.take M).length = M := by rw [List.length_take]; omega
        have hlt2 : (headless (C.drop M)).length = C.length - M := by rw [headless_len, List.length_drop]
        have hA2' : ∀ u ∈ cutOut U [] (lowAt C M), bl u.key (lowAt C M) = false ∧ chOf C u.key = ((C.take M).length : Int) + chOf (headless (C.drop M)) u.key := fun u hu => ⟨(hA2 u hu).1, by rw [hlt1]; exact (hA2 u hu).2⟩
        have hs1 : (C.take M).length + (headless (C.drop M)).length ≤ C.length ∧ C.length ≤ (C.take M).length + (headless (C.drop M)).length ∧ (headless (C.drop M)).length ≤ (C.take M).length ∧ (C.take M).length ≤ (headless (C.drop M)).length + 1 := by omega
        have hs2 : (cutIn U [] (lowAt C M)).length + (cutOut U [] (lowAt C M)).length ≤ U.length ∧ U.length ≤ (cutIn U [] (lowAt C M)).length + (cutOut U [] (lowAt C M)).length := by omega
        have HA1 := Lib.hid hA1
        have HA2 := Lib.hid hA2'
        clear hA1 hA2 hA2' hA3 hMm hlt1 hlt2 hm0
        generalize lowAt C M = low at *
        generalize cutIn U [] low = I at *
        generalize cutOut U [] low = O at *
        generalize C.take M = C1 at *
        generalize headless (C.drop M) = C2 at *
        clear M
        obtain ⟨hs1a, hs1b, hs1c, hs1d⟩ := hs1
        obtain ⟨hs2a, hs2b⟩ := hs2
        have h2' : decide ((1 : Int) < (C.length : Int)) = true := by simp; omega
        go_wp2_with fail
        refine (thread (HHV.out _ HN.out) w8.heap.size w8 (Below.refl _ _) (Nat.le_refl _)).mono ?_
        rintro e w9 ⟨⟨va, vb, rfl, hva, hvb⟩, hX9, -, -, -, hz9⟩
        obtain ⟨a4, b4, x4, y4, rfl, hc4, hu4⟩ := hva
        obtain ⟨a5, b5, x5, y5, rfl, hc5, hu5⟩ := hvb
        have HNa := Lib.hid (NodeAt.mk' hc4 hu4)
        have HNb := Lib.hid (NodeAt.mk' hc5 hu5)
        clear hc4 hu4 hc5 hu5 HHV
        replace k0 := kept_cell hX9 k0
        replace k1 := kept_cell hX9 k1
        replace e0 := kept_cell hX9 e0
        replace e1 := kept_cell hX9 e1
        replace HN := Lib.hid (HN.out.kept hX9 (Nat.le_refl _))
        replace HM := Lib.hid (HM.out.kept hX9 (Nat.le_refl _))
        replace hB := hB.trans (hX9.mono hB.size)
        clear hX9
        go_upto_region 27 with (fail)
        obtain ⟨W9, hW_W9⟩ : ∃ W9, W9 = ((w9.alloc (.cells #[.slice a4 C1.length x4, .slice b4 I.length y4] 31)).alloc (.cells #[.slice a5 C2.length x5, .slice b5 O.length y5] 31)) := ⟨_, rfl⟩
        rw [← hW_W9]
        have hX_W9 : Below w9.heap.size w9 W9 := by rw [hW_W9]; go_grown
        have g0 : W9.cell? ⟨w9.heap.size, 0, none⟩ = some (.slice a4 C1.length x4) := by rw [hW_W9, World.cell?_alloc_past _ _ _ (by simp <;> omega), World.cell?_alloc_at _ _ _ _ (by simp)]; rfl
        have g1 : W9.cell? ⟨w9.heap.size, 1, none⟩ = some (.slice b4 I.length y4) := by rw [hW_W9, World.cell?_alloc_past _ _ _ (by simp <;> omega), World.cell?_alloc_at _ _ _ _ (by simp)]; rfl
        have h0 : W9.cell? ⟨w9.heap.size + 1, 0, none⟩ = some (.slice a5 C2.length x5) := by rw [hW_W9, World.cell?_alloc_at _ _ _ _ (by simp)]; rfl
        have h1 : W9.cell? ⟨w9.heap.size + 1, 1, none⟩ = some (.slice b5 O.length y5) := by rw [hW_W9, World.cell?_alloc_at _ _ _ _ (by simp)]; rfl
        clear hW_W9
        have hz_W9 := hX_W9.size
        replace k0 := kept_cell hX_W9 k0
        replace k1 := kept_cell hX_W9 k1
        replace e0 := kept_cell hX_W9 e0
        replace e1 := kept_cell hX_W9 e1
        replace HN := Lib.hid (HN.out.kept hX_W9 (Nat.le_refl _))
        replace HM := Lib.hid (HM.out.kept hX_W9 (Nat.le_refl _))
        replace HNa := Lib.hid (HNa.out.kept hX_W9 (Nat.le_refl _))
        replace HNb := Lib.hid (HNb.out.kept hX_W9 (Nat.le_refl _))
        replace hB := hB.trans (hX_W9.mono hB.size)
        clear hX_W9
        go_wp2_with fail
        refine (thread (list_next b4 I.length y4 I _ rfl (BoxU.mk ⟨_, rfl, HNa.out.parts.2⟩) (by omega)) W9.heap.size W9 (Below.refl _ _) (Nat.le_refl _)).mono ?_
        rintro e w10 ⟨⟨a6, c6, rfl, hown⟩, hX_w10, -, -, -, hz_w10⟩
        replace k0 := kept_cell hX_w10 k0
        replace k1 := kept_cell hX_w10 k1
        replace e0 := kept_cell hX_w10 e0
        replace e1 := kept_cell hX_w10 e1
        replace g0 := kept_cell hX_w10 g0
        replace g1 := kept_cell hX_w10 g1
        replace h0 := kept_cell hX_w10 h0
        replace h1 := kept_cell hX_w10 h1
        replace HN := Lib.hid (HN.out.kept hX_w10 (Nat.le_refl _))
        replace HM := Lib.hid (HM.out.kept hX_w10 (Nat.le_refl _))
        replace HNa := Lib.hid (HNa.out.kept hX_w10 (Nat.le_refl _))
        replace HNb := Lib.hid (HNb.out.kept hX_w10 (Nat.le_refl _))
        replace hB := hB.trans (hX_w10.mono hB.size)
        clear hX_w10
        have HRW := Lib.hid (SlU.of_own hown).2
        clear hown
        go_wp2_with fail
        go_loopw [132] (fun i wx => ∃ (j : Nat), i = .int .i64 j ∧ j ≤ I.length ∧ Below w10.heap.size w10 wx) (fun i _ => I.length - (intOf i).toNat)
        case atStart => exact ⟨0, rfl, by omega, Below.refl _ _⟩
        case round =>
          obtain ⟨j, rfl, hj, hXi⟩ := hrel
          have hj0 : (0 : Int) ≤ (j : Int) := Int.natCast_nonneg _
          have hzx := hXi.size
          replace k0 := kept_cell hXi k0
          replace k1 := kept_cell hXi k1
          replace e0 := kept_cell hXi e0
          replace e1 := kept_cell hXi e1
          replace g0 := kept_cell hXi g0
          replace g1 := kept_cell hXi g1
          replace h0 := kept_cell hXi h0
          replace h1 := kept_cell hXi h1
          replace HN := Lib.hid (HN.out.kept hXi (Nat.le_refl _))
          replace HM := Lib.hid (HM.out.kept hXi (Nat.le_refl _))
          replace HNa := Lib.hid (HNa.out.kept hXi (Nat.le_refl _))
          replace HNb := Lib.hid (HNb.out.kept hXi (Nat.le_refl _))
          replace HRW := Lib.hid (HRW.out.kept hXi (Nat.le_refl _))
          replace hB := hB.trans (hXi.mono hB.size)
          by_cases hjl : j < I.length
          · have hj1 : (j : Int) < (I.length : Int) := by omega
            obtain ⟨bb, off, rfl, hb, s0, s1, s2, s3⟩ := HRW.out.cells4 j hjl
            obtain ⟨hlo, hch⟩ := HA1.out I[j] (List.getElem_mem hjl)
            generalize I[j] = u at *
            go_wp2_with fail
            obtain ⟨W11, hW_W11⟩ : ∃ W11, W11 = (wr.alloc (.cells #[.int .u8 u.kind, .string (S u.key), .string (S u.val), .int .u64 u.delta] 67)) := ⟨_, rfl⟩
            rw [← hW_W11]
            have hX_W11 : Below wr.heap.size wr W11 := by rw [hW_W11]; go_grown
            have u0 : W11.cell? ⟨wr.heap.size, 0, none⟩ = some (.int .u8 u.kind) := by rw [hW_W11, World.cell?_alloc_at _ _ _ _ (by simp)]; rfl
            have u1 : W11.cell? ⟨wr.heap.size, 1, none⟩ = some (.string (S u.key)) := by rw [hW_W11, World.cell?_alloc_at _ _ _ _ (by simp)]; rfl
            have u2 : W11.cell? ⟨wr.heap.size, 2, none⟩ = some (.string (S u.val)) := by rw [hW_W11, World.cell?_alloc_at _ _ _ _ (by simp)]; rfl
            have u3 : W11.cell? ⟨wr.heap.size, 3, none⟩ = some (.int .u64 u.delta) := by rw [hW_W11, World.cell?_alloc_at _ _ _ _ (by simp)]; rfl
            clear hW_W11
            have hz_W11 := hX_W11.size
            replace k0 := kept_cell hX_W11 k0
            replace k1 := kept_cell hX_W11 k1
            replace e0 := kept_cell hX_W11 e0
            replace e1 := kept_cell hX_W11 e1
            replace g0 := kept_cell hX_W11 g0
            replace g1 := kept_cell hX_W11 g1
            replace h0 := kept_cell hX_W11 h0
            replace h1 := kept_cell hX_W11 h1
            replace HN := Lib.hid (HN.out.kept hX_W11 (Nat.le_refl _))
            replace HM := Lib.hid (HM.out.kept hX_W11 (Nat.le_refl _))
            replace HNa := Lib.hid (HNa.out.kept hX_W11 (Nat.le_refl _))
            replace HNb := Lib.hid (HNb.out.kept hX_W11 (Nat.le_refl _))
            replace HRW := Lib.hid (HRW.out.kept hX_W11 (Nat.le_refl _))
            replace hB := hB.trans (hX_W11.mono hB.size)
            replace hXi := hXi.trans (hX_W11.mono hXi.size)
            clear hX_W11
            have hb' : Op.bytesLess low u.key = false := bl_asymm hlo
            have he' : (low == u.key) = false := by simpa using fun e : low = u.key => bl_ne hlo e.symm
            have HC0 := Lib.hid (fun W h => child_any (.agg #[.slice a2 C.length y2, .slice b2 U.length z2]) C U u.key W h (by omega))
            have HC1 := Lib.hid (fun W h => child_any (.agg #[.slice a4 C1.length x4, .slice b4 I.length y4]) C1 I u.key W h (by omega))
            rw [hch] at HC1
            clear hch s0 s1 s2 s3
            generalize chOf C u.key = q at *
            refine WQ.region (C := fun w' => Below W11.heap.size W11 w') (by kernel_rfl) (by kernel_rfl) (below_drew' (Below.refl _ _)) ?_
            refine WQ.want (by rfl) (fun K hK => ?_)
            refine ⟨.pointer (some ⟨wr.heap.size, 1, none⟩), fun w' hw' => ?_, hK _ ?_⟩
            · have hq' := hw'
              go_simp
            clear hK K
            (try simp only [Act.put, List.setIfInBounds_toArray, List.set_cons_zero, List.set_cons_succ])
            refine WQ.want (by rfl) (fun K hK => ?_)
            refine ⟨.string (S u.key), fun w' hw' => ?_, hK _ ?_⟩
            · have hq' := hw'
              have z0 := kept_cell hw' u1; have z1 := kept_cell hw' k0; have z2 := kept_cell hw' k1; have z3 := kept_cell hw' g0; have z4 := kept_cell hw' g1; go_simp
            clear hK K
            (try simp only [Act.put, List.setIfInBounds_toArray, List.set_cons_zero, List.set_cons_succ])
            refine WQ.want (by rfl) (fun K hK => ?_)
            refine ⟨.string (S low), fun w' hw' => ?_, hK _ ?_⟩
            · have hq' := hw'
              go_simp
            clear hK K
            (try simp only [Act.put, List.setIfInBounds_toArray, List.set_cons_zero, List.set_cons_succ])
            refine WQ.want (by rfl) (fun K hK => ?_)
            refine ⟨.bool false, fun w' hw' => ?_, hK _ ?_⟩
            · have hq' := hw'
              go_simp
            clear hK K
            (try simp only [Act.put, List.setIfInBounds_toArray, List.set_cons_zero, List.set_cons_succ])
            refine WQ.want (by rfl) (fun K hK => ?_)
            refine ⟨.bool false, fun w' hw' => ?_, hK _ ?_⟩
            · have hq' := hw'
              go_simp
            clear hK K
            (try simp only [Act.put, List.setIfInBounds_toArray, List.set_cons_zero, List.set_cons_succ])
            refine WQ.want (by rfl) (fun K hK => ?_)
            refine ⟨.agg #[.slice a2 C.length y2, .slice b2 U.length z2], fun w' hw' => ?_, hK _ ?_⟩
            · have hq' := hw'
              have z0 := kept_cell hw' u1; have z1 := kept_cell hw' k0; have z2 := kept_cell hw' k1; have z3 := kept_cell hw' g0; have z4 := kept_cell hw' g1; go_simp
            clear hK K
            (try simp only [Act.put, List.setIfInBounds_toArray, List.set_cons_zero, List.set_cons_succ])
            refine WQ.want (by rfl) (fun K hK => ?_)
            refine ⟨.pointer (some ⟨wr.heap.size, 1, none⟩), fun w' hw' => ?_, hK _ ?_⟩
            · have hq' := hw'
              go_simp
            clear hK K
            (try simp only [Act.put, List.setIfInBounds_toArray, List.set_cons_zero, List.set_cons_succ])
            refine WQ.want (by rfl) (fun K hK => ?_)
            refine ⟨.string (S u.key), fun w' hw' => ?_, hK _ ?_⟩
            · have hq' := hw'
              have z0 := kept_cell hw' u1; have z1 := kept_cell hw' k0; have z2 := kept_cell hw' k1; have z3 := kept_cell hw' g0; have z4 := kept_cell hw' g1; go_simp
            clear hK K
            (try simp only [Act.put, List.setIfInBounds_toArray, List.set_cons_zero, List.set_cons_succ])
            refine WQ.want (by rfl) (fun K hK => ?_)
            refine ⟨.int .i64 q, fun w' hw' => ?_, hK _ ?_⟩
            · have hq' := hw'
              go_simp
              go_at_call 18
              refine (HC0.out _ (HN.out.kept hq' (Nat.le_refl _))).mono ?_
              rintro e w6 ⟨he, hb6⟩
              exact ⟨he, hq'.trans (hb6.mono hq'.size)⟩
            clear hK K
            (try simp only [Act.put, List.setIfInBounds_toArray, List.set_cons_zero, List.set_cons_succ])
            refine WQ.want (by rfl) (fun K hK => ?_)
            refine ⟨.agg #[.slice a4 C1.length x4, .slice b4 I.length y4], fun w' hw' => ?_, hK _ ?_⟩
            · have hq' := hw'
              have z0 := kept_cell hw' u1; have z1 := kept_cell hw' k0; have z2 := kept_cell hw' k1; have z3 := kept_cell hw' g0; have z4 := kept_cell hw' g1; go_simp
            clear hK K
            (try simp only [Act.put, List.setIfInBounds_toArray, List.set_cons_zero, List.set_cons_succ])
            refine WQ.want (by rfl) (fun K hK => ?_)
            refine ⟨.pointer (some ⟨wr.heap.size, 1, none⟩), fun w' hw' => ?_, hK _ ?_⟩
            · have hq' := hw'
              go_simp
            clear hK K
            (try simp only [Act.put, List.setIfInBounds_toArray, List.set_cons_zero, List.set_cons_succ])
            refine WQ.want (by rfl) (fun K hK => ?_)
            refine ⟨.string (S u.key), fun w' hw' => ?_, hK _ ?_⟩
            · have hq' := hw'
              have z0 := kept_cell hw' u1; have z1 := kept_cell hw' k0; have z2 := kept_cell hw' k1; have z3 := kept_cell hw' g0; have z4 := kept_cell hw' g1; go_simp
            clear hK K
            (try simp only [Act.put, List.setIfInBounds_toArray, List.set_cons_zero, List.set_cons_succ])
            refine WQ.want (by rfl) (fun K hK => ?_)
            refine ⟨.int .i64 q, fun w' hw' => ?_, hK _ ?_⟩
            · have hq' := hw'
              go_simp
              go_at_call 18
              refine (HC1.out _ (HNa.out.kept hq' (Nat.le_refl _))).mono ?_
              rintro e w6 ⟨he, hb6⟩
              exact ⟨he, hq'.trans (hb6.mono hq'.size)⟩
            clear hK K
            (try simp only [Act.put, List.setIfInBounds_toArray, List.set_cons_zero, List.set_cons_succ])
            refine WQ.want (by rfl) (fun K hK => ?_)
            refine ⟨.bool false, fun w' hw' => ?_, hK _ ?_⟩
            · have hq' := hw'
              go_simp
            clear hK K
            (try simp only [Act.put, List.setIfInBounds_toArray, List.set_cons_zero, List.set_cons_succ])
            refine WQ.want (by rfl) (fun K hK => ?_)
            refine ⟨.bool false, fun w' hw' => ?_, hK _ ?_⟩
            · have hq' := hw'
              go_simp
            clear hK K
            (try simp only [Act.put, List.setIfInBounds_toArray, List.set_cons_zero, List.set_cons_succ])
            refine WQ.done ?_
            rintro w12 hX12
            replace k0 := kept_cell hX12 k0
            replace k1 := kept_cell hX12 k1
            replace e0 := kept_cell hX12 e0
            replace e1 := kept_cell hX12 e1
            replace g0 := kept_cell hX12 g0
            replace g1 := kept_cell hX12 g1
            replace h0 := kept_cell hX12 h0
            replace h1 := kept_cell hX12 h1
            replace u0 := kept_cell hX12 u0
            replace u1 := kept_cell hX12 u1
            replace u2 := kept_cell hX12 u2
            replace u3 := kept_cell hX12 u3
            replace HN := Lib.hid (HN.out.kept hX12 (Nat.le_refl _))
            replace HM := Lib.hid (HM.out.kept hX12 (Nat.le_refl _))
            replace HNa := Lib.hid (HNa.out.kept hX12 (Nat.le_refl _))
            replace HNb := Lib.hid (HNb.out.kept hX12 (Nat.le_refl _))
            replace HRW := Lib.hid (HRW.out.kept hX12 (Nat.le_refl _))
            replace hB := hB.trans (hX12.mono hB.size)
            replace hXi := hXi.trans (hX12.mono hXi.size)
            clear hX12
            go_wp2_with fail
            exact ⟨⟨j + 1, by go_num, by omega, hXi⟩, by simp [intOf]; omega⟩
          · obtain rfl : j = I.length := by omega
            obtain ⟨wp, hwp⟩ : ∃ wp, wp = wr := ⟨_, rfl⟩
            subst hwp
            clear hXi hzx
            go_wp2_with fail
            go_wp2_with fail
            refine (thread (list_next b5 O.length y5 O _ rfl (BoxU.mk ⟨_, rfl, HNb.out.parts.2⟩) (by omega)) wp.heap.size wp (Below.refl _ _) (Nat.le_refl _)).mono ?_
            rintro e w13 ⟨⟨a7, c7, rfl, hown⟩, hX_w13, -, -, -, hz_w13⟩
            replace k0 := kept_cell hX_w13 k0
            replace k1 := kept_cell hX_w13 k1
            replace e0 := kept_cell hX_w13 e0
            replace e1 := kept_cell hX_w13 e1
            replace g0 := kept_cell hX_w13 g0
            replace g1 := kept_cell hX_w13 g1
            replace h0 := kept_cell hX_w13 h0
            replace h1 := kept_cell hX_w13 h1
            replace HN := Lib.hid (HN.out.kept hX_w13 (Nat.le_refl _))
            replace HM := Lib.hid (HM.out.kept hX_w13 (Nat.le_refl _))
            replace HNa := Lib.hid (HNa.out.kept hX_w13 (Nat.le_refl _))
            replace HNb := Lib.hid (HNb.out.kept hX_w13 (Nat.le_refl _))
            replace HRW := Lib.hid (HRW.out.kept hX_w13 (Nat.le_refl _))
            replace hB := hB.trans (hX_w13.mono hB.size)
            clear hX_w13
            have HRX := Lib.hid (SlU.of_own hown).2
            clear hown
            go_wp2_with fail
            go_loopw [156] (fun i wx => ∃ (j : Nat), i = .int .i64 j ∧ j ≤ O.length ∧ Below w13.heap.size w13 wx) (fun i _ => O.length - (intOf i).toNat)
            case atStart => exact ⟨0, rfl, by omega, Below.refl _ _⟩
            case round =>
              obtain ⟨j, rfl, hj', hXi⟩ := hrel
              have hj0' : (0 : Int) ≤ (j : Int) := Int.natCast_nonneg _
              have hzx := hXi.size
              replace k0 := kept_cell hXi k0
              replace k1 := kept_cell hXi k1
              replace e0 := kept_cell hXi e0
              replace e1 := kept_cell hXi e1
              replace g0 := kept_cell hXi g0
              replace g1 := kept_cell hXi g1
              replace h0 := kept_cell hXi h0
              replace h1 := kept_cell hXi h1
              replace HN := Lib.hid (HN.out.kept hXi (Nat.le_refl _))
              replace HM := Lib.hid (HM.out.kept hXi (Nat.le_refl _))
              replace HNa := Lib.hid (HNa.out.kept hXi (Nat.le_refl _))
              replace HNb := Lib.hid (HNb.out.kept hXi (Nat.le_refl _))
              replace HRW := Lib.hid (HRW.out.kept hXi (Nat.le_refl _))
              replace HRX := Lib.hid (HRX.out.kept hXi (Nat.le_refl _))
              replace hB := hB.trans (hXi.mono hB.size)
              by_cases hjl : j < O.length
              · have hj1 : (j : Int) < (O.length : Int) := by omega
                obtain ⟨bb, off, rfl, hb, s0, s1, s2, s3⟩ := HRX.out.cells4 j hjl
                obtain ⟨hlo, hch⟩ := HA2.out O[j] (List.getElem_mem hjl)
                generalize O[j] = u at *
                go_wp2_with fail
                obtain ⟨W14, hW_W14⟩ : ∃ W14, W14 = (wr.alloc (.cells #[.int .u8 u.kind, .string (S u.key), .string (S u.val), .int .u64 u.delta] 67)) := ⟨_, rfl⟩
                rw [← hW_W14]
                have hX_W14 : Below wr.heap.size wr W14 := by rw [hW_W14]; go_grown
                have u0 : W14.cell? ⟨wr.heap.size, 0, none⟩ = some (.int .u8 u.kind) := by rw [hW_W14, World.cell?_alloc_at _ _ _ _ (by simp)]; rfl
                have u1 : W14.cell? ⟨wr.heap.size, 1, none⟩ = some (.string (S u.key)) := by rw [hW_W14, World.cell?_alloc_at _ _ _ _ (by simp)]; rfl
                have u2 : W14.cell? ⟨wr.heap.size, 2, none⟩ = some (.string (S u.val)) := by rw [hW_W14, World.cell?_alloc_at _ _ _ _ (by simp)]; rfl
                have u3 : W14.cell? ⟨wr.heap.size, 3, none⟩ = some (.int .u64 u.delta) := by rw [hW_W14, World.cell?_alloc_at _ _ _ _ (by simp)]; rfl
                clear hW_W14
                have hz_W14 := hX_W14.size
                replace k0 := kept_cell hX_W14 k0
                replace k1 := kept_cell hX_W14 k1
                replace e0 := kept_cell hX_W14 e0
                replace e1 := kept_cell hX_W14 e1
                replace g0 := kept_cell hX_W14 g0
                replace g1 := kept_cell hX_W14 g1
                replace h0 := kept_cell hX_W14 h0
                replace h1 := kept_cell hX_W14 h1
                replace HN := Lib.hid (HN.out.kept hX_W14 (Nat.le_refl _))
                replace HM := Lib.hid (HM.out.kept hX_W14 (Nat.le_refl _))
                replace HNa := Lib.hid (HNa.out.kept hX_W14 (Nat.le_refl _))
                replace HNb := Lib.hid (HNb.out.kept hX_W14 (Nat.le_refl _))
                replace HRW := Lib.hid (HRW.out.kept hX_W14 (Nat.le_refl _))
                replace HRX := Lib.hid (HRX.out.kept hX_W14 (Nat.le_refl _))
                replace hB := hB.trans (hX_W14.mono hB.size)
                replace hXi := hXi.trans (hX_W14.mono hXi.size)
                clear hX_W14
                have HC0 := Lib.hid (fun W h => child_any (.agg #[.slice a2 C.length y2, .slice b2 U.length z2]) C U u.key W h (by omega))
                have HC1 := Lib.hid (fun W h => child_any (.agg #[.slice a5 C2.length x5, .slice b5 O.length y5]) C2 O u.key W h (by omega))
                have hq := chAt_lt C2 u.key C2.length
                rw [show chAt C2 u.key C2.length = chOf C2 u.key from rfl] at hq
                rw [hch] at HC0
                clear hch s0 s1 s2 s3
                generalize chOf C2 u.key = q at *
                obtain ⟨hq1, hq2⟩ := hq
                refine WQ.region (C := fun w' => Below W14.heap.size W14 w') (by kernel_rfl) (by kernel_rfl) (below_drew' (Below.refl _ _)) ?_
                refine WQ.want (by rfl) (fun K hK => ?_)
                refine ⟨.pointer (some ⟨wr.heap.size, 1, none⟩), fun w' hw' => ?_, hK _ ?_⟩
                · have hq' := hw'
                  go_simp
                clear hK K
                (try simp only [Act.put, List.setIfInBounds_toArray, List.set_cons_zero, List.set_cons_succ])
                refine WQ.want (by rfl) (fun K hK => ?_)
                refine ⟨.string (S u.key), fun w' hw' => ?_, hK _ ?_⟩
                · have hq' := hw'
                  have z0 := kept_cell hw' u1; have z1 := kept_cell hw' k0; have z2 := kept_cell hw' k1; have z3 := kept_cell hw' h0; have z4 := kept_cell hw' h1; go_simp
                clear hK K
                (try simp only [Act.put, List.setIfInBounds_toArray, List.set_cons_zero, List.set_cons_succ])
                refine WQ.want (by rfl) (fun K hK => ?_)
                refine ⟨.string (S low), fun w' hw' => ?_, hK _ ?_⟩
                · have hq' := hw'
                  go_simp
                clear hK K
                (try simp only [Act.put, List.setIfInBounds_toArray, List.set_cons_zero, List.set_cons_succ])
                refine WQ.want (by rfl) (fun K hK => ?_)
                refine ⟨.bool false, fun w' hw' => ?_, hK _ ?_⟩
                · have hq' := hw'
                  go_simp
                clear hK K
                (try simp only [Act.put, List.setIfInBounds_toArray, List.set_cons_zero, List.set_cons_succ])
                refine WQ.want (by rfl) (fun K hK => ?_)
                refine ⟨.bool false, fun w' hw' => ?_, hK _ ?_⟩
                · have hq' := hw'
                  go_simp
                clear hK K
                (try simp only [Act.put, List.setIfInBounds_toArray, List.set_cons_zero, List.set_cons_succ])
                refine WQ.want (by rfl) (fun K hK => ?_)
                refine ⟨.agg #[.slice a2 C.length y2, .slice b2 U.length z2], fun w' hw' => ?_, hK _ ?_⟩
                · have hq' := hw'
                  have z0 := kept_cell hw' u1; have z1 := kept_cell hw' k0; have z2 := kept_cell hw' k1; have z3 := kept_cell hw' h0; have z4 := kept_cell hw' h1; go_simp
                clear hK K
                (try simp only [Act.put, List.setIfInBounds_toArray, List.set_cons_zero, List.set_cons_succ])
                refine WQ.want (by rfl) (fun K hK => ?_)
                refine ⟨.pointer (some ⟨wr.heap.size, 1, none⟩), fun w' hw' => ?_, hK _ ?_⟩
                · have hq' := hw'
                  go_simp
                clear hK K
                (try simp only [Act.put, List.setIfInBounds_toArray, List.set_cons_zero, List.set_cons_succ])
                refine WQ.want (by rfl) (fun K hK => ?_)
                refine ⟨.string (S u.key), fun w' hw' => ?_, hK _ ?_⟩
                · have hq' := hw'
                  have z0 := kept_cell hw' u1; have z1 := kept_cell hw' k0; have z2 := kept_cell hw' k1; have z3 := kept_cell hw' h0; have z4 := kept_cell hw' h1; go_simp
                clear hK K
                (try simp only [Act.put, List.setIfInBounds_toArray, List.set_cons_zero, List.set_cons_succ])
                refine WQ.want (by rfl) (fun K hK => ?_)
                refine ⟨.int .i64 ((C1.length : Int) + q), fun w' hw' => ?_, hK _ ?_⟩
                · have hq' := hw'
                  go_simp
                  go_at_call 18
                  refine (HC0.out _ (HN.out.kept hq' (Nat.le_refl _))).mono ?_
                  rintro e w6 ⟨he, hb6⟩
                  exact ⟨he, hq'.trans (hb6.mono hq'.size)⟩
                clear hK K
                (try simp only [Act.put, List.setIfInBounds_toArray, List.set_cons_zero, List.set_cons_succ])
                refine WQ.want (by rfl) (fun K hK => ?_)
                refine ⟨.int .i64 C1.length, fun w' hw' => ?_, hK _ ?_⟩
                · have hq' := hw'
                  go_simp
                clear hK K
                (try simp only [Act.put, List.setIfInBounds_toArray, List.set_cons_zero, List.set_cons_succ])
                refine WQ.want (by rfl) (fun K hK => ?_)
                refine ⟨.agg #[.slice a5 C2.length x5, .slice b5 O.length y5], fun w' hw' => ?_, hK _ ?_⟩
                · have hq' := hw'
                  have z0 := kept_cell hw' u1; have z1 := kept_cell hw' k0; have z2 := kept_cell hw' k1; have z3 := kept_cell hw' h0; have z4 := kept_cell hw' h1; go_simp
                clear hK K
                (try simp only [Act.put, List.setIfInBounds_toArray, List.set_cons_zero, List.set_cons_succ])
                refine WQ.want (by rfl) (fun K hK => ?_)
                refine ⟨.pointer (some ⟨wr.heap.size, 1, none⟩), fun w' hw' => ?_, hK _ ?_⟩
                · have hq' := hw'
                  go_simp
                clear hK K
                (try simp only [Act.put, List.setIfInBounds_toArray, List.set_cons_zero, List.set_cons_succ])
                refine WQ.want (by rfl) (fun K hK => ?_)
                refine ⟨.string (S u.key), fun w' hw' => ?_, hK _ ?_⟩
                · have hq' := hw'
                  have z0 := kept_cell hw' u1; have z1 := kept_cell hw' k0; have z2 := kept_cell hw' k1; have z3 := kept_cell hw' h0; have z4 := kept_cell hw' h1; go_simp
                clear hK K
                (try simp only [Act.put, List.setIfInBounds_toArray, List.set_cons_zero, List.set_cons_succ])
                refine WQ.want (by rfl) (fun K hK => ?_)
                refine ⟨.int .i64 q, fun w' hw' => ?_, hK _ ?_⟩
                · have hq' := hw'
                  go_simp
                  go_at_call 18
                  refine (HC1.out _ (HNb.out.kept hq' (Nat.le_refl _))).mono ?_
                  rintro e w6 ⟨he, hb6⟩
                  exact ⟨he, hq'.trans (hb6.mono hq'.size)⟩
                clear hK K
                (try simp only [Act.put, List.setIfInBounds_toArray, List.set_cons_zero, List.set_cons_succ])
                refine WQ.want (by rfl) (fun K hK => ?_)
                refine ⟨.int .i64 ((C1.length : Int) + q), fun w' hw' => ?_, hK _ ?_⟩
                · have hq' := hw'
                  have z0 := kept_cell hw' u1; have z1 := kept_cell hw' k0; have z2 := kept_cell hw' k1; have z3 := kept_cell hw' h0; have z4 := kept_cell hw' h1; (have hw := IntWalk.i64_in ((C1.length : Int) + q) (by omega)); go_simp
                clear hK K
                (try simp only [Act.put, List.setIfInBounds_toArray, List.set_cons_zero, List.set_cons_succ])
                refine WQ.want (by rfl) (fun K hK => ?_)
                refine ⟨.bool false, fun w' hw' => ?_, hK _ ?_⟩
                · have hq' := hw'
                  go_simp
                clear hK K
                (try simp only [Act.put, List.setIfInBounds_toArray, List.set_cons_zero, List.set_cons_succ])
                refine WQ.want (by rfl) (fun K hK => ?_)
                refine ⟨.bool false, fun w' hw' => ?_, hK _ ?_⟩
                · have hq' := hw'
                  go_simp
                clear hK K
                (try simp only [Act.put, List.setIfInBounds_toArray, List.set_cons_zero, List.set_cons_succ])
                refine WQ.done ?_
                rintro w15 hX15
                replace k0 := kept_cell hX15 k0
                replace k1 := kept_cell hX15 k1
                replace e0 := kept_cell hX15 e0
                replace e1 := kept_cell hX15 e1
                replace g0 := kept_cell hX15 g0
                replace g1 := kept_cell hX15 g1
                replace h0 := kept_cell hX15 h0
                replace h1 := kept_cell hX15 h1
                replace u0 := kept_cell hX15 u0
                replace u1 := kept_cell hX15 u1
                replace u2 := kept_cell hX15 u2
                replace u3 := kept_cell hX15 u3
                replace HN := Lib.hid (HN.out.kept hX15 (Nat.le_refl _))
                replace HM := Lib.hid (HM.out.kept hX15 (Nat.le_refl _))
                replace HNa := Lib.hid (HNa.out.kept hX15 (Nat.le_refl _))
                replace HNb := Lib.hid (HNb.out.kept hX15 (Nat.le_refl _))
                replace HRW := Lib.hid (HRW.out.kept hX15 (Nat.le_refl _))
                replace HRX := Lib.hid (HRX.out.kept hX15 (Nat.le_refl _))
                replace hB := hB.trans (hX15.mono hB.size)
                replace hXi := hXi.trans (hX15.mono hXi.size)
                clear hX15
                go_wp2_with fail
                exact ⟨⟨j + 1, by go_num, by omega, hXi⟩, by simp [intOf]; omega⟩
              · obtain rfl : j = O.length := by omega
                go_wp2_with fail
                refine WQ.region (C := fun w' => Below wr.heap.size wr w') (by kernel_rfl) (by kernel_rfl) (below_drew' (Below.refl _ _)) ?_
                refine WQ.want (by rfl) (fun K hK => ?_)
                refine ⟨.int .i64 C1.length, fun w' hw' => ?_, hK _ ?_⟩
                · have hq' := hw'
                  go_simp
                clear hK K
                (try simp only [Act.put, List.setIfInBounds_toArray, List.set_cons_zero, List.set_cons_succ])
                refine WQ.want (by rfl) (fun K hK => ?_)
                refine ⟨.pointer (some ⟨w9.heap.size + 1, 0, none⟩), fun w' hw' => ?_, hK _ ?_⟩
                · have hq' := hw'
                  go_simp
                clear hK K
                (try simp only [Act.put, List.setIfInBounds_toArray, List.set_cons_zero, List.set_cons_succ])
                refine WQ.want (by rfl) (fun K hK => ?_)
                refine ⟨.slice a5 C2.length x5, fun w' hw' => ?_, hK _ ?_⟩
                · have hq' := hw'
                  have z0 := kept_cell hw' k0; have z1 := kept_cell hw' k1; have z2 := kept_cell hw' g0; have z3 := kept_cell hw' g1; have z4 := kept_cell hw' h0; have z5 := kept_cell hw' h1; go_simp
                clear hK K
                (try simp only [Act.put, List.setIfInBounds_toArray, List.set_cons_zero, List.set_cons_succ])
                refine WQ.want (by rfl) (fun K hK => ?_)
                refine ⟨.int .i64 C2.length, fun w' hw' => ?_, hK _ ?_⟩
                · have hq' := hw'
                  go_simp
                clear hK K
                (try simp only [Act.put, List.setIfInBounds_toArray, List.set_cons_zero, List.set_cons_succ])
                refine WQ.want (by rfl) (fun K hK => ?_)
                refine ⟨.int .i64 ((C1.length : Int) - (C2.length : Int)), fun w' hw' => ?_, hK _ ?_⟩
                · have hq' := hw'
                  have z0 := kept_cell hw' k0; have z1 := kept_cell hw' k1; have z2 := kept_cell hw' g0; have z3 := kept_cell hw' g1; have z4 := kept_cell hw' h0; have z5 := kept_cell hw' h1; (have hw := IntWalk.i64_in ((C1.length : Int) - (C2.length : Int)) (by omega)); go_simp
                clear hK K
                (try simp only [Act.put, List.setIfInBounds_toArray, List.set_cons_zero, List.set_cons_succ])
                refine WQ.want (by rfl) (fun K hK => ?_)
                refine ⟨.bool true, fun w' hw' => ?_, hK _ ?_⟩
                · have hq' := hw'
                  go_simp
                clear hK K
                (try simp only [Act.put, List.setIfInBounds_toArray, List.set_cons_zero, List.set_cons_succ])
                refine WQ.want (by rfl) (fun K hK => ?_)
                refine ⟨.bool true, fun w' hw' => ?_, hK _ ?_⟩
                · have hq' := hw'
                  go_simp
                clear hK K
                (try simp only [Act.put, List.setIfInBounds_toArray, List.set_cons_zero, List.set_cons_succ])
                refine WQ.want (by rfl) (fun K hK => ?_)
                refine ⟨.int .i64 C1.length, fun w' hw' => ?_, hK _ ?_⟩
                · have hq' := hw'
                  go_simp
                clear hK K
                (try simp only [Act.put, List.setIfInBounds_toArray, List.set_cons_zero, List.set_cons_succ])
                refine WQ.want (by rfl) (fun K hK => ?_)
                refine ⟨.pointer (some ⟨w9.heap.size + 1, 0, none⟩), fun w' hw' => ?_, hK _ ?_⟩
                · have hq' := hw'
                  go_simp
                clear hK K
                (try simp only [Act.put, List.setIfInBounds_toArray, List.set_cons_zero, List.set_cons_succ])
                refine WQ.want (by rfl) (fun K hK => ?_)
                refine ⟨.slice a5 C2.length x5, fun w' hw' => ?_, hK _ ?_⟩
                · have hq' := hw'
                  have z0 := kept_cell hw' k0; have z1 := kept_cell hw' k1; have z2 := kept_cell hw' g0; have z3 := kept_cell hw' g1; have z4 := kept_cell hw' h0; have z5 := kept_cell hw' h1; go_simp
                clear hK K
                (try simp only [Act.put, List.setIfInBounds_toArray, List.set_cons_zero, List.set_cons_succ])
                refine WQ.want (by rfl) (fun K hK => ?_)
                refine ⟨.int .i64 C2.length, fun w' hw' => ?_, hK _ ?_⟩
                · have hq' := hw'
                  go_simp
                clear hK K
                (try simp only [Act.put, List.setIfInBounds_toArray, List.set_cons_zero, List.set_cons_succ])
                refine WQ.want (by rfl) (fun K hK => ?_)
                refine ⟨.int .i64 ((C1.length : Int) - (C2.length : Int)), fun w' hw' => ?_, hK _ ?_⟩
                · have hq' := hw'
                  have z0 := kept_cell hw' k0; have z1 := kept_cell hw' k1; have z2 := kept_cell hw' g0; have z3 := kept_cell hw' g1; have z4 := kept_cell hw' h0; have z5 := kept_cell hw' h1; (have hw := IntWalk.i64_in ((C1.length : Int) - (C2.length : Int)) (by omega)); go_simp
                clear hK K
                (try simp only [Act.put, List.setIfInBounds_toArray, List.set_cons_zero, List.set_cons_succ])
                refine WQ.want (by rfl) (fun K hK => ?_)
                refine ⟨.bool true, fun w' hw' => ?_, hK _ ?_⟩
                · have hq' := hw'
                  have z0 := kept_cell hw' k0; have z1 := kept_cell hw' k1; have z2 := kept_cell hw' g0; have z3 := kept_cell hw' g1; have z4 := kept_cell hw' h0; have z5 := kept_cell hw' h1; go_simp; omega
                clear hK K
                (try simp only [Act.put, List.setIfInBounds_toArray, List.set_cons_zero, List.set_cons_succ])
                refine WQ.want (by rfl) (fun K hK => ?_)
                refine ⟨.bool true, fun w' hw' => ?_, hK _ ?_⟩
                · have hq' := hw'
                  go_simp
                clear hK K
                (try simp only [Act.put, List.setIfInBounds_toArray, List.set_cons_zero, List.set_cons_succ])
                refine WQ.want (by rfl) (fun K hK => ?_)
                refine ⟨.bool true, fun w' hw' => ?_, hK _ ?_⟩
                · have hq' := hw'
                  go_simp
                clear hK K
                (try simp only [Act.put, List.setIfInBounds_toArray, List.set_cons_zero, List.set_cons_succ])
                refine WQ.want (by rfl) (fun K hK => ?_)
                refine ⟨.pointer (some ⟨w9.heap.size, 1, none⟩), fun w' hw' => ?_, hK _ ?_⟩
                · have hq' := hw'
                  go_simp
                clear hK K
                (try simp only [Act.put, List.setIfInBounds_toArray, List.set_cons_zero, List.set_cons_succ])
                refine WQ.want (by rfl) (fun K hK => ?_)
                refine ⟨.agg #[.slice b4 I.length y4], fun w' hw' => ?_, hK _ ?_⟩
                · have hq' := hw'
                  have z0 := kept_cell hw' k0; have z1 := kept_cell hw' k1; have z2 := kept_cell hw' g0; have z3 := kept_cell hw' g1; have z4 := kept_cell hw' h0; have z5 := kept_cell hw' h1; go_simp
                clear hK K
                (try simp only [Act.put, List.setIfInBounds_toArray, List.set_cons_zero, List.set_cons_succ])
                refine WQ.want (by rfl) (fun K hK => ?_)
                refine ⟨.int .i64 I.length, fun w' hw' => ?_, hK _ ?_⟩
                · have hq' := hw'
                  go_simp
                  go_at_call 26
                  refine (lenU_next b4 I.length y4 _).mono ?_
                  rintro e w6 ⟨he, hb6⟩
                  exact ⟨he, hq'.trans (hb6.mono hq'.size)⟩
                clear hK K
                (try simp only [Act.put, List.setIfInBounds_toArray, List.set_cons_zero, List.set_cons_succ])
                refine WQ.want (by rfl) (fun K hK => ?_)
                refine ⟨.pointer (some ⟨w9.heap.size + 1, 1, none⟩), fun w' hw' => ?_, hK _ ?_⟩
                · have hq' := hw'
                  go_simp
                clear hK K
                (try simp only [Act.put, List.setIfInBounds_toArray, List.set_cons_zero, List.set_cons_succ])
                refine WQ.want (by rfl) (fun K hK => ?_)
                refine ⟨.agg #[.slice b5 O.length y5], fun w' hw' => ?_, hK _ ?_⟩
                · have hq' := hw'
                  have z0 := kept_cell hw' k0; have z1 := kept_cell hw' k1; have z2 := kept_cell hw' g0; have z3 := kept_cell hw' g1; have z4 := kept_cell hw' h0; have z5 := kept_cell hw' h1; go_simp
                clear hK K
                (try simp only [Act.put, List.setIfInBounds_toArray, List.set_cons_zero, List.set_cons_succ])
                refine WQ.want (by rfl) (fun K hK => ?_)
                refine ⟨.int .i64 O.length, fun w' hw' => ?_, hK _ ?_⟩
                · have hq' := hw'
                  go_simp
                  go_at_call 26
                  refine (lenU_next b5 O.length y5 _).mono ?_
                  rintro e w6 ⟨he, hb6⟩
                  exact ⟨he, hq'.trans (hb6.mono hq'.size)⟩
                clear hK K
                (try simp only [Act.put, List.setIfInBounds_toArray, List.set_cons_zero, List.set_cons_succ])
                refine WQ.want (by rfl) (fun K hK => ?_)
                refine ⟨.int .i64 ((I.length : Int) + (O.length : Int)), fun w' hw' => ?_, hK _ ?_⟩
                · have hq' := hw'
                  have z0 := kept_cell hw' k0; have z1 := kept_cell hw' k1; have z2 := kept_cell hw' g0; have z3 := kept_cell hw' g1; have z4 := kept_cell hw' h0; have z5 := kept_cell hw' h1; (have hw := IntWalk.i64_in ((I.length : Int) + (O.length : Int)) (by omega)); go_simp
                clear hK K
                (try simp only [Act.put, List.setIfInBounds_toArray, List.set_cons_zero, List.set_cons_succ])
                refine WQ.want (by rfl) (fun K hK => ?_)
                refine ⟨.int .i64 U.length, fun w' hw' => ?_, hK _ ?_⟩
                · have hq' := hw'
                  go_simp
                clear hK K
                (try simp only [Act.put, List.setIfInBounds_toArray, List.set_cons_zero, List.set_cons_succ])
                refine WQ.want (by rfl) (fun K hK => ?_)
                refine ⟨.bool true, fun w' hw' => ?_, hK _ ?_⟩
                · have hq' := hw'
                  have z0 := kept_cell hw' k0; have z1 := kept_cell hw' k1; have z2 := kept_cell hw' g0; have z3 := kept_cell hw' g1; have z4 := kept_cell hw' h0; have z5 := kept_cell hw' h1; go_simp; omega
                clear hK K
                (try simp only [Act.put, List.setIfInBounds_toArray, List.set_cons_zero, List.set_cons_succ])
                refine WQ.want (by rfl) (fun K hK => ?_)
                refine ⟨.bool true, fun w' hw' => ?_, hK _ ?_⟩
                · have hq' := hw'
                  go_simp
                clear hK K
                (try simp only [Act.put, List.setIfInBounds_toArray, List.set_cons_zero, List.set_cons_succ])
                refine WQ.want (by rfl) (fun K hK => ?_)
                refine ⟨.bool true, fun w' hw' => ?_, hK _ ?_⟩
                · have hq' := hw'
                  go_simp
                clear hK K
                (try simp only [Act.put, List.setIfInBounds_toArray, List.set_cons_zero, List.set_cons_succ])
                refine WQ.want (by rfl) (fun K hK => ?_)
                refine ⟨.int .i64 C1.length, fun w' hw' => ?_, hK _ ?_⟩
                · have hq' := hw'
                  go_simp
                clear hK K
                (try simp only [Act.put, List.setIfInBounds_toArray, List.set_cons_zero, List.set_cons_succ])
                refine WQ.want (by rfl) (fun K hK => ?_)
                refine ⟨.pointer (some ⟨w9.heap.size + 1, 0, none⟩), fun w' hw' => ?_, hK _ ?_⟩
                · have hq' := hw'
                  go_simp
                clear hK K
                (try simp only [Act.put, List.setIfInBounds_toArray, List.set_cons_zero, List.set_cons_succ])
                refine WQ.want (by rfl) (fun K hK => ?_)
                refine ⟨.slice a5 C2.length x5, fun w' hw' => ?_, hK _ ?_⟩
                · have hq' := hw'
                  have z0 := kept_cell hw' k0; have z1 := kept_cell hw' k1; have z2 := kept_cell hw' g0; have z3 := kept_cell hw' g1; have z4 := kept_cell hw' h0; have z5 := kept_cell hw' h1; go_simp
                clear hK K
                (try simp only [Act.put, List.setIfInBounds_toArray, List.set_cons_zero, List.set_cons_succ])
                refine WQ.want (by rfl) (fun K hK => ?_)
                refine ⟨.int .i64 C2.length, fun w' hw' => ?_, hK _ ?_⟩
                · have hq' := hw'
                  go_simp
                clear hK K
                (try simp only [Act.put, List.setIfInBounds_toArray, List.set_cons_zero, List.set_cons_succ])
                refine WQ.want (by rfl) (fun K hK => ?_)
                refine ⟨.int .i64 ((C1.length : Int) + (C2.length : Int)), fun w' hw' => ?_, hK _ ?_⟩
                · have hq' := hw'
                  have z0 := kept_cell hw' k0; have z1 := kept_cell hw' k1; have z2 := kept_cell hw' g0; have z3 := kept_cell hw' g1; have z4 := kept_cell hw' h0; have z5 := kept_cell hw' h1; (have hw := IntWalk.i64_in ((C1.length : Int) + (C2.length : Int)) (by omega)); go_simp
                clear hK K
                (try simp only [Act.put, List.setIfInBounds_toArray, List.set_cons_zero, List.set_cons_succ])
                refine WQ.want (by rfl) (fun K hK => ?_)
                refine ⟨.pointer (some ⟨w2.heap.size, 0, none⟩), fun w' hw' => ?_, hK _ ?_⟩
                · have hq' := hw'
                  go_simp
                clear hK K
                (try simp only [Act.put, List.setIfInBounds_toArray, List.set_cons_zero, List.set_cons_succ])
                refine WQ.want (by rfl) (fun K hK => ?_)
                refine ⟨.slice a2 C.length y2, fun w' hw' => ?_, hK _ ?_⟩
                · have hq' := hw'
                  have z0 := kept_cell hw' k0; have z1 := kept_cell hw' k1; have z2 := kept_cell hw' g0; have z3 := kept_cell hw' g1; have z4 := kept_cell hw' h0; have z5 := kept_cell hw' h1; go_simp
                clear hK K
                (try simp only [Act.put, List.setIfInBounds_toArray, List.set_cons_zero, List.set_cons_succ])
                refine WQ.want (by rfl) (fun K hK => ?_)
                refine ⟨.int .i64 C.length, fun w' hw' => ?_, hK _ ?_⟩
                · have hq' := hw'
                  go_simp
                clear hK K
                (try simp only [Act.put, List.setIfInBounds_toArray, List.set_cons_zero, List.set_cons_succ])
                refine WQ.want (by rfl) (fun K hK => ?_)
                refine ⟨.bool true, fun w' hw' => ?_, hK _ ?_⟩
                · have hq' := hw'
                  have z0 := kept_cell hw' k0; have z1 := kept_cell hw' k1; have z2 := kept_cell hw' g0; have z3 := kept_cell hw' g1; have z4 := kept_cell hw' h0; have z5 := kept_cell hw' h1; go_simp; omega
                clear hK K
                (try simp only [Act.put, List.setIfInBounds_toArray, List.set_cons_zero, List.set_cons_succ])
                refine WQ.want (by rfl) (fun K hK => ?_)
                refine ⟨.bool true, fun w' hw' => ?_, hK _ ?_⟩
                · have hq' := hw'
                  go_simp
                clear hK K
                (try simp only [Act.put, List.setIfInBounds_toArray, List.set_cons_zero, List.set_cons_succ])
                refine WQ.want (by rfl) (fun K hK => ?_)
                refine ⟨.bool true, fun w' hw' => ?_, hK _ ?_⟩
                · have hq' := hw'
                  go_simp
                clear hK K
                (try simp only [Act.put, List.setIfInBounds_toArray, List.set_cons_zero, List.set_cons_succ])
                refine WQ.done ?_
                rintro w16 hX16
                replace k0 := kept_cell hX16 k0
                replace k1 := kept_cell hX16 k1
                replace e0 := kept_cell hX16 e0
                replace e1 := kept_cell hX16 e1
                replace g0 := kept_cell hX16 g0
                replace g1 := kept_cell hX16 g1
                replace h0 := kept_cell hX16 h0
                replace h1 := kept_cell hX16 h1
                replace HN := Lib.hid (HN.out.kept hX16 (Nat.le_refl _))
                replace HM := Lib.hid (HM.out.kept hX16 (Nat.le_refl _))
                replace HNa := Lib.hid (HNa.out.kept hX16 (Nat.le_refl _))
                replace HNb := Lib.hid (HNb.out.kept hX16 (Nat.le_refl _))
                replace HRW := Lib.hid (HRW.out.kept hX16 (Nat.le_refl _))
                replace HRX := Lib.hid (HRX.out.kept hX16 (Nat.le_refl _))
                replace hB := hB.trans (hX16.mono hB.size)
                clear hX16
                go_wp2_with fail
                go_ret
                exact ⟨rfl, hB⟩
      · have HHV := Lib.hid (fun W h => halves_none (.agg #[.slice a2 C.length y2, .slice b2 U.length z2]) C U W h (by omega))
        have h2' : decide ((1 : Int) < (C.length : Int)) = false := by simp; omega
        go_wp2_with fail
        refine (thread (HHV.out _ HN.out) w8.heap.size w8 (Below.refl _ _) (Nat.le_refl _)).mono ?_
        rintro e w9 ⟨rfl, hX9, -, -, -, hz9⟩
        replace k0 := kept_cell hX9 k0
        replace k1 := kept_cell hX9 k1
        replace e0 := kept_cell hX9 e0
        replace e1 := kept_cell hX9 e1
        replace HN := Lib.hid (HN.out.kept hX9 (Nat.le_refl _))
        replace HM := Lib.hid (HM.out.kept hX9 (Nat.le_refl _))
        replace hB := hB.trans (hX9.mono hB.size)
        clear hX9
        go_upto_region 27 with (fail)
        obtain ⟨W9, hW_W9⟩ : ∃ W9, W9 = ((w9.alloc (.cells #[.slice none 0 0, .slice none 0 0] 31)).alloc (.cells #[.slice none 0 0, .slice none 0 0] 31)) := ⟨_, rfl⟩
        rw [← hW_W9]
        have hX_W9 : Below w9.heap.size w9 W9 := by rw [hW_W9]; go_grown
        have g0 : W9.cell? ⟨w9.heap.size, 0, none⟩ = some (.slice none 0 0) := by rw [hW_W9, World.cell?_alloc_past _ _ _ (by simp <;> omega), World.cell?_alloc_at _ _ _ _ (by simp)]; rfl
        have g1 : W9.cell? ⟨w9.heap.size, 1, none⟩ = some (.slice none 0 0) := by rw [hW_W9, World.cell?_alloc_past _ _ _ (by simp <;> omega), World.cell?_alloc_at _ _ _ _ (by simp)]; rfl
        have h0 : W9.cell? ⟨w9.heap.size + 1, 0, none⟩ = some (.slice none 0 0) := by rw [hW_W9, World.cell?_alloc_at _ _ _ _ (by simp)]; rfl
        have h1 : W9.cell? ⟨w9.heap.size + 1, 1, none⟩ = some (.slice none 0 0) := by rw [hW_W9, World.cell?_alloc_at _ _ _ _ (by simp)]; rfl
        clear hW_W9
        have hz_W9 := hX_W9.size
        replace k0 := kept_cell hX_W9 k0
        replace k1 := kept_cell hX_W9 k1
        replace e0 := kept_cell hX_W9 e0
        replace e1 := kept_cell hX_W9 e1
        replace HN := Lib.hid (HN.out.kept hX_W9 (Nat.le_refl _))
        replace HM := Lib.hid (HM.out.kept hX_W9 (Nat.le_refl _))
        replace hB := hB.trans (hX_W9.mono hB.size)
        clear hX_W9
        go_wp2_with fail
        go_ret
        exact ⟨rfl, hB⟩
    · obtain ⟨hI1, hI2, hI3, hI4, hI5, hI6, hI7⟩ := step_all hKO.out HA.out.rise k hkl HK.out.2 hc1 La HA.out.most
      have HST := Lib.hid (fun W h => step_some (.agg #[.slice a C.length y, .slice b U'.length z]) C U' W h (by omega) (by omega) HA.out.rise k HK.out.1 hkl hc1)
      generalize cutIn U' (rngLow C (k : Int)) (rngHigh C (k : Int)) = I at *
      generalize cutOut U' (rngLow C (k : Int)) (rngHigh C (k : Int)) = O at *
      have HI1 := Lib.hid hI1
      have HI5 := Lib.hid (show AllAt C U.length O I.length (G + I.length) from ⟨hI7, hI5, by have := HA.out.sum; omega, by have := HA.out.last; omega⟩)
      have hI6a : I.length + O.length ≤ U'.length := by omega
      have hI4' : (U'.length : Int) ≤ (I.length : Int) * (C.length : Int) := by exact_mod_cast hI4
      have hP : (I.length : Int) * (C.length : Int) ≤ 61 * 21 := Int.mul_le_mul (by omega) (by omega) (by omega) (by omega)
      have hG2 : G + I.length ≤ U.length := by have := HA.out.sum; omega
      clear hI1 hI4 hI5 hI6 hI7
      go_wp2_with fail
      refine (thread (HST.out wo HM.out) wo.heap.size wo (Below.refl _ _) (Nat.le_refl _)).mono ?_
      rintro e w6 ⟨⟨a4, y4, nv, rfl, hbx, hnv⟩, hX_w6, -, -, -, hz_w6⟩
      replace f0 := kept_frozen hX_w6 e0 f0
      replace f1 := kept_frozen hX_w6 e1 f1
      replace k0 := kept_cell hX_w6 k0
      replace k1 := kept_cell hX_w6 k1
      replace e0 := kept_cell hX_w6 e0
      replace e1 := kept_cell hX_w6 e1
      replace HN := Lib.hid (HN.out.kept hX_w6 (Nat.le_refl _))
      replace HM := Lib.hid (HM.out.kept hX_w6 (Nat.le_refl _))
      replace hB := hB.trans (hX_w6.mono hB.size)
      replace hX := hX.trans (hX_w6.mono hX.size)
      clear hX_w6
      obtain ⟨a5, b5, x5, y5, rfl, hc5, hu5⟩ := hnv
      have HBX := Lib.hid hbx
      have HR := Lib.hid (NodeAt.mk' hc5 hu5)
      clear hbx hc5 hu5 HST
      go_upto_region 8 with (fail)
      obtain ⟨W7, hW_W7⟩ : ∃ W7, W7 = ((w6.alloc (.cells #[.slice a4 I.length y4] 29)).alloc (.cells #[.slice a5 C.length x5, .slice b5 O.length y5] 31)) := ⟨_, rfl⟩
      rw [← hW_W7]
      have hX_W7 : Below w6.heap.size w6 W7 := by rw [hW_W7]; go_grown
      have q0 : W7.cell? ⟨w6.heap.size, 0, none⟩ = some (.slice a4 I.length y4) := by rw [hW_W7, World.cell?_alloc_past _ _ _ (by simp <;> omega), World.cell?_alloc_at _ _ _ _ (by simp)]; rfl
      have r0 : W7.cell? ⟨w6.heap.size + 1, 0, none⟩ = some (.slice a5 C.length x5) := by rw [hW_W7, World.cell?_alloc_at _ _ _ _ (by simp)]; rfl
      have r1 : W7.cell? ⟨w6.heap.size + 1, 1, none⟩ = some (.slice b5 O.length y5) := by rw [hW_W7, World.cell?_alloc_at _ _ _ _ (by simp)]; rfl
      clear hW_W7
      have hz_W7 := hX_W7.size
      replace f0 := kept_frozen hX_W7 e0 f0
      replace f1 := kept_frozen hX_W7 e1 f1
      replace k0 := kept_cell hX_W7 k0
      replace k1 := kept_cell hX_W7 k1
      replace e0 := kept_cell hX_W7 e0
      replace e1 := kept_cell hX_W7 e1
      replace HN := Lib.hid (HN.out.kept hX_W7 (Nat.le_refl _))
      replace HM := Lib.hid (HM.out.kept hX_W7 (Nat.le_refl _))
      replace HBX := Lib.hid (HBX.out.kept hX_W7 (Nat.le_refl _))
      replace HR := Lib.hid (HR.out.kept hX_W7 (Nat.le_refl _))
      replace hB := hB.trans (hX_W7.mono hB.size)
      replace hX := hX.trans (hX_W7.mono hX.size)
      clear hX_W7
      go_wp2_with fail
      refine WQ.region (C := fun w' => Below W7.heap.size W7 w') (by kernel_rfl) (by kernel_rfl) (below_drew' (Below.refl _ _)) ?_
      refine WQ.want (by rfl) (fun K hK => ?_)
      refine ⟨.agg #[.slice a4 I.length y4], fun w' hw' => ?_, hK _ ?_⟩
      · have hq' := hw'
        have z0 := kept_cell hw' q0; have z1 := kept_cell hw' e0; have z2 := kept_cell hw' e1; go_simp
      clear hK K
      (try simp only [Act.put, List.setIfInBounds_toArray, List.set_cons_zero, List.set_cons_succ])
      refine WQ.want (by rfl) (fun K hK => ?_)
      refine ⟨.int .i64 I.length, fun w' hw' => ?_, hK _ ?_⟩
      · have hq' := hw'
        go_simp
        go_at_call 26
        refine (lenU_next a4 I.length y4 _).mono ?_
        rintro e w6 ⟨he, hb6⟩
        exact ⟨he, hq'.trans (hb6.mono hq'.size)⟩
      clear hK K
      (try simp only [Act.put, List.setIfInBounds_toArray, List.set_cons_zero, List.set_cons_succ])
      refine WQ.want (by rfl) (fun K hK => ?_)
      refine ⟨.bool false, fun w' hw' => ?_, hK _ ?_⟩
      · have hq' := hw'
        have z0 := kept_cell hw' q0; have z1 := kept_cell hw' e0; have z2 := kept_cell hw' e1; go_simp; omega
      clear hK K
      (try simp only [Act.put, List.setIfInBounds_toArray, List.set_cons_zero, List.set_cons_succ])
      refine WQ.want (by rfl) (fun K hK => ?_)
      refine ⟨.bool false, fun w' hw' => ?_, hK _ ?_⟩
      · have hq' := hw'
        go_simp
      clear hK K
      (try simp only [Act.put, List.setIfInBounds_toArray, List.set_cons_zero, List.set_cons_succ])
      refine WQ.want (by rfl) (fun K hK => ?_)
      refine ⟨.agg #[.slice a4 I.length y4], fun w' hw' => ?_, hK _ ?_⟩
      · have hq' := hw'
        have z0 := kept_cell hw' q0; have z1 := kept_cell hw' e0; have z2 := kept_cell hw' e1; go_simp
      clear hK K
      (try simp only [Act.put, List.setIfInBounds_toArray, List.set_cons_zero, List.set_cons_succ])
      refine WQ.want (by rfl) (fun K hK => ?_)
      refine ⟨.int .i64 I.length, fun w' hw' => ?_, hK _ ?_⟩
      · have hq' := hw'
        go_simp
        go_at_call 26
        refine (lenU_next a4 I.length y4 _).mono ?_
        rintro e w6 ⟨he, hb6⟩
        exact ⟨he, hq'.trans (hb6.mono hq'.size)⟩
      clear hK K
      (try simp only [Act.put, List.setIfInBounds_toArray, List.set_cons_zero, List.set_cons_succ])
      refine WQ.want (by rfl) (fun K hK => ?_)
      refine ⟨.int .i64 La, fun w' hw' => ?_, hK _ ?_⟩
      · have hq' := hw'
        go_simp
      clear hK K
      (try simp only [Act.put, List.setIfInBounds_toArray, List.set_cons_zero, List.set_cons_succ])
      refine WQ.want (by rfl) (fun K hK => ?_)
      refine ⟨.bool false, fun w' hw' => ?_, hK _ ?_⟩
      · have hq' := hw'
        go_simp
      clear hK K
      (try simp only [Act.put, List.setIfInBounds_toArray, List.set_cons_zero, List.set_cons_succ])
      refine WQ.want (by rfl) (fun K hK => ?_)
      refine ⟨.bool false, fun w' hw' => ?_, hK _ ?_⟩
      · have hq' := hw'
        go_simp
      clear hK K
      (try simp only [Act.put, List.setIfInBounds_toArray, List.set_cons_zero, List.set_cons_succ])
      refine WQ.want (by rfl) (fun K hK => ?_)
      refine ⟨.bool false, fun w' hw' => ?_, hK _ ?_⟩
      · have hq' := hw'
        go_simp
      clear hK K
      (try simp only [Act.put, List.setIfInBounds_toArray, List.set_cons_zero, List.set_cons_succ])
      refine WQ.want (by rfl) (fun K hK => ?_)
      refine ⟨.agg #[.slice a4 I.length y4], fun w' hw' => ?_, hK _ ?_⟩
      · have hq' := hw'
        have z0 := kept_cell hw' q0; have z1 := kept_cell hw' e0; have z2 := kept_cell hw' e1; go_simp
      clear hK K
      (try simp only [Act.put, List.setIfInBounds_toArray, List.set_cons_zero, List.set_cons_succ])
      refine WQ.want (by rfl) (fun K hK => ?_)
      refine ⟨.int .i64 I.length, fun w' hw' => ?_, hK _ ?_⟩
      · have hq' := hw'
        go_simp
        go_at_call 26
        refine (lenU_next a4 I.length y4 _).mono ?_
        rintro e w6 ⟨he, hb6⟩
        exact ⟨he, hq'.trans (hb6.mono hq'.size)⟩
      clear hK K
      (try simp only [Act.put, List.setIfInBounds_toArray, List.set_cons_zero, List.set_cons_succ])
      refine WQ.want (by rfl) (fun K hK => ?_)
      refine ⟨.pointer (some ⟨p, 0, none⟩), fun w' hw' => ?_, hK _ ?_⟩
      · have hq' := hw'
        go_simp
      clear hK K
      (try simp only [Act.put, List.setIfInBounds_toArray, List.set_cons_zero, List.set_cons_succ])
      refine WQ.want (by rfl) (fun K hK => ?_)
      refine ⟨.slice a C.length y, fun w' hw' => ?_, hK _ ?_⟩
      · have hq' := hw'
        have z0 := kept_cell hw' q0; have z1 := kept_cell hw' e0; have z2 := kept_cell hw' e1; go_simp
      clear hK K
      (try simp only [Act.put, List.setIfInBounds_toArray, List.set_cons_zero, List.set_cons_succ])
      refine WQ.want (by rfl) (fun K hK => ?_)
      refine ⟨.int .i64 C.length, fun w' hw' => ?_, hK _ ?_⟩
      · have hq' := hw'
        go_simp
      clear hK K
      (try simp only [Act.put, List.setIfInBounds_toArray, List.set_cons_zero, List.set_cons_succ])
      refine WQ.want (by rfl) (fun K hK => ?_)
      refine ⟨.int .i64 ((I.length : Int) * (C.length : Int)), fun w' hw' => ?_, hK _ ?_⟩
      · have hq' := hw'
        have z0 := kept_cell hw' q0; have z1 := kept_cell hw' e0; have z2 := kept_cell hw' e1; (have hw := IntWalk.i64_in ((I.length : Int) * (C.length : Int)) ⟨by omega, by omega⟩); go_simp
      clear hK K
      (try simp only [Act.put, List.setIfInBounds_toArray, List.set_cons_zero, List.set_cons_succ])
      refine WQ.want (by rfl) (fun K hK => ?_)
      refine ⟨.pointer (some ⟨p, 1, none⟩), fun w' hw' => ?_, hK _ ?_⟩
      · have hq' := hw'
        go_simp
      clear hK K
      (try simp only [Act.put, List.setIfInBounds_toArray, List.set_cons_zero, List.set_cons_succ])
      refine WQ.want (by rfl) (fun K hK => ?_)
      refine ⟨.agg #[.slice b U'.length z], fun w' hw' => ?_, hK _ ?_⟩
      · have hq' := hw'
        have z0 := kept_cell hw' q0; have z1 := kept_cell hw' e0; have z2 := kept_cell hw' e1; go_simp
      clear hK K
      (try simp only [Act.put, List.setIfInBounds_toArray, List.set_cons_zero, List.set_cons_succ])
      refine WQ.want (by rfl) (fun K hK => ?_)
      refine ⟨.int .i64 U'.length, fun w' hw' => ?_, hK _ ?_⟩
      · have hq' := hw'
        go_simp
        go_at_call 26
        refine (lenU_next b U'.length z _).mono ?_
        rintro e w6 ⟨he, hb6⟩
        exact ⟨he, hq'.trans (hb6.mono hq'.size)⟩
      clear hK K
      (try simp only [Act.put, List.setIfInBounds_toArray, List.set_cons_zero, List.set_cons_succ])
      refine WQ.want (by rfl) (fun K hK => ?_)
      refine ⟨.bool false, fun w' hw' => ?_, hK _ ?_⟩
      · have hq' := hw'
        go_simp
      clear hK K
      (try simp only [Act.put, List.setIfInBounds_toArray, List.set_cons_zero, List.set_cons_succ])
      refine WQ.want (by rfl) (fun K hK => ?_)
      refine ⟨.bool false, fun w' hw' => ?_, hK _ ?_⟩
      · have hq' := hw'
        go_simp
      clear hK K
      (try simp only [Act.put, List.setIfInBounds_toArray, List.set_cons_zero, List.set_cons_succ])
      refine WQ.done ?_
      rintro w8 hX8
      replace f0 := kept_frozen hX8 e0 f0
      replace f1 := kept_frozen hX8 e1 f1
      replace k0 := kept_cell hX8 k0
      replace k1 := kept_cell hX8 k1
      replace e0 := kept_cell hX8 e0
      replace e1 := kept_cell hX8 e1
      replace q0 := kept_cell hX8 q0
      replace r0 := kept_cell hX8 r0
      replace r1 := kept_cell hX8 r1
      replace HN := Lib.hid (HN.out.kept hX8 (Nat.le_refl _))
      replace HM := Lib.hid (HM.out.kept hX8 (Nat.le_refl _))
      replace HBX := Lib.hid (HBX.out.kept hX8 (Nat.le_refl _))
      replace HR := Lib.hid (HR.out.kept hX8 (Nat.le_refl _))
      replace hB := hB.trans (hX8.mono hB.size)
      replace hX := hX.trans (hX8.mono hX.size)
      clear hX8
      go_wp2_with fail
      go_wp2_with fail
      refine (thread (list_next a4 I.length y4 I _ rfl HBX.out (by omega)) w8.heap.size w8 (Below.refl _ _) (Nat.le_refl _)).mono ?_
      rintro e w9 ⟨⟨a6, c6, rfl, hown⟩, hX_w9, -, -, -, hz_w9⟩
      replace f0 := kept_frozen hX_w9 e0 f0
      replace f1 := kept_frozen hX_w9 e1 f1
      replace k0 := kept_cell hX_w9 k0
      replace k1 := kept_cell hX_w9 k1
      replace e0 := kept_cell hX_w9 e0
      replace e1 := kept_cell hX_w9 e1
      replace q0 := kept_cell hX_w9 q0
      replace r0 := kept_cell hX_w9 r0
      replace r1 := kept_cell hX_w9 r1
      replace HN := Lib.hid (HN.out.kept hX_w9 (Nat.le_refl _))
      replace HM := Lib.hid (HM.out.kept hX_w9 (Nat.le_refl _))
      replace HBX := Lib.hid (HBX.out.kept hX_w9 (Nat.le_refl _))
      replace HR := Lib.hid (HR.out.kept hX_w9 (Nat.le_refl _))
      replace hB := hB.trans (hX_w9.mono hB.size)
      replace hX := hX.trans (hX_w9.mono hX.size)
      clear hX_w9
      have HRW := Lib.hid (SlU.of_own hown).2
      clear hown
      go_wp2_with fail
      go_loopw [84] (fun i wx => ∃ (j : Nat), i = .int .i64 j ∧ j ≤ I.length ∧ Below w9.heap.size w9 wx) (fun i _ => I.length - (intOf i).toNat)
      case atStart => exact ⟨0, rfl, by omega, Below.refl _ _⟩
      case round =>
        obtain ⟨j, rfl, hj, hXi⟩ := hrel
        have hj0 : (0 : Int) ≤ (j : Int) := Int.natCast_nonneg _
        have hzx := hXi.size
        replace f0 := kept_frozen hXi e0 f0
        replace f1 := kept_frozen hXi e1 f1
        replace k0 := kept_cell hXi k0
        replace k1 := kept_cell hXi k1
        replace e0 := kept_cell hXi e0
        replace e1 := kept_cell hXi e1
        replace q0 := kept_cell hXi q0
        replace r0 := kept_cell hXi r0
        replace r1 := kept_cell hXi r1
        replace HN := Lib.hid (HN.out.kept hXi (Nat.le_refl _))
        replace HM := Lib.hid (HM.out.kept hXi (Nat.le_refl _))
        replace HBX := Lib.hid (HBX.out.kept hXi (Nat.le_refl _))
        replace HR := Lib.hid (HR.out.kept hXi (Nat.le_refl _))
        replace HRW := Lib.hid (HRW.out.kept hXi (Nat.le_refl _))
        replace hB := hB.trans (hXi.mono hB.size)
        replace hX := hX.trans (hXi.mono hX.size)
        by_cases hjl : j < I.length
        · have hj1 : (j : Int) < (I.length : Int) := by omega
          obtain ⟨bb, off, rfl, hb, s0, s1, s2, s3⟩ := HRW.out.cells4 j hjl
          have hch := HI1.out I[j] (List.getElem_mem hjl)
          generalize I[j] = u at *
          have HC0 := Lib.hid (fun W h => child_any (.agg #[.slice a2 C.length y2, .slice b2 U.length z2]) C U u.key W h (by omega))
          rw [hch] at HC0
          clear hch
          go_upto_region 16 with (fail)
          obtain ⟨W10, hW_W10⟩ : ∃ W10, W10 = (wr.alloc (.cells #[.int .u8 u.kind, .string (S u.key), .string (S u.val), .int .u64 u.delta] 67)) := ⟨_, rfl⟩
          rw [← hW_W10]
          have hX_W10 : Below wr.heap.size wr W10 := by rw [hW_W10]; go_grown
          have u0 : W10.cell? ⟨wr.heap.size, 0, none⟩ = some (.int .u8 u.kind) := by rw [hW_W10, World.cell?_alloc_at _ _ _ _ (by simp)]; rfl
          have u1 : W10.cell? ⟨wr.heap.size, 1, none⟩ = some (.string (S u.key)) := by rw [hW_W10, World.cell?_alloc_at _ _ _ _ (by simp)]; rfl
          have u2 : W10.cell? ⟨wr.heap.size, 2, none⟩ = some (.string (S u.val)) := by rw [hW_W10, World.cell?_alloc_at _ _ _ _ (by simp)]; rfl
          have u3 : W10.cell? ⟨wr.heap.size, 3, none⟩ = some (.int .u64 u.delta) := by rw [hW_W10, World.cell?_alloc_at _ _ _ _ (by simp)]; rfl
          clear hW_W10
          have hz_W10 := hX_W10.size
          replace f0 := kept_frozen hX_W10 e0 f0
          replace f1 := kept_frozen hX_W10 e1 f1
          replace k0 := kept_cell hX_W10 k0
          replace k1 := kept_cell hX_W10 k1
          replace e0 := kept_cell hX_W10 e0
          replace e1 := kept_cell hX_W10 e1
          replace q0 := kept_cell hX_W10 q0
          replace r0 := kept_cell hX_W10 r0
          replace r1 := kept_cell hX_W10 r1
          replace HN := Lib.hid (HN.out.kept hX_W10 (Nat.le_refl _))
          replace HM := Lib.hid (HM.out.kept hX_W10 (Nat.le_refl _))
          replace HBX := Lib.hid (HBX.out.kept hX_W10 (Nat.le_refl _))
          replace HR := Lib.hid (HR.out.kept hX_W10 (Nat.le_refl _))
          replace HRW := Lib.hid (HRW.out.kept hX_W10 (Nat.le_refl _))
          replace hB := hB.trans (hX_W10.mono hB.size)
          replace hX := hX.trans (hX_W10.mono hX.size)
          replace hXi := hXi.trans (hX_W10.mono hXi.size)
          clear hX_W10
          clear s0 s1 s2 s3
          go_wp2_with fail
          refine (thread (HC0.out _ HN.out) W10.heap.size W10 (Below.refl _ _) (Nat.le_refl _)).mono ?_
          rintro e w11 ⟨rfl, hX_w11, -, -, -, hz_w11⟩
          replace f0 := kept_frozen hX_w11 e0 f0
          replace f1 := kept_frozen hX_w11 e1 f1
          replace k0 := kept_cell hX_w11 k0
          replace k1 := kept_cell hX_w11 k1
          replace e0 := kept_cell hX_w11 e0
          replace e1 := kept_cell hX_w11 e1
          replace q0 := kept_cell hX_w11 q0
          replace r0 := kept_cell hX_w11 r0
          replace r1 := kept_cell hX_w11 r1
          replace u0 := kept_cell hX_w11 u0
          replace u1 := kept_cell hX_w11 u1
          replace u2 := kept_cell hX_w11 u2
          replace u3 := kept_cell hX_w11 u3
          replace HN := Lib.hid (HN.out.kept hX_w11 (Nat.le_refl _))
          replace HM := Lib.hid (HM.out.kept hX_w11 (Nat.le_refl _))
          replace HBX := Lib.hid (HBX.out.kept hX_w11 (Nat.le_refl _))
          replace HR := Lib.hid (HR.out.kept hX_w11 (Nat.le_refl _))
          replace HRW := Lib.hid (HRW.out.kept hX_w11 (Nat.le_refl _))
          replace hB := hB.trans (hX_w11.mono hB.size)
          replace hX := hX.trans (hX_w11.mono hX.size)
          replace hXi := hXi.trans (hX_w11.mono hXi.size)
          clear hX_w11
          go_wp2_with fail
          exact ⟨⟨j + 1, by go_num, by omega, hXi⟩, by simp [intOf]; omega⟩
        · obtain rfl : j = I.length := by omega
          clear hXi
          go_wp2_with fail
          go_wp2_with fail
          refine (thread (lenU_next a4 I.length y4 _) wr.heap.size wr (Below.refl _ _) (Nat.le_refl _)).mono ?_
          rintro e w12 ⟨rfl, hX_w12, -, -, -, hz_w12⟩
          replace f0 := kept_frozen hX_w12 e0 f0
          replace f1 := kept_frozen hX_w12 e1 f1
          replace k0 := kept_cell hX_w12 k0
          replace k1 := kept_cell hX_w12 k1
          replace e0 := kept_cell hX_w12 e0
          replace e1 := kept_cell hX_w12 e1
          replace q0 := kept_cell hX_w12 q0
          replace r0 := kept_cell hX_w12 r0
          replace r1 := kept_cell hX_w12 r1
          replace HN := Lib.hid (HN.out.kept hX_w12 (Nat.le_refl _))
          replace HM := Lib.hid (HM.out.kept hX_w12 (Nat.le_refl _))
          replace HBX := Lib.hid (HBX.out.kept hX_w12 (Nat.le_refl _))
          replace HR := Lib.hid (HR.out.kept hX_w12 (Nat.le_refl _))
          replace HRW := Lib.hid (HRW.out.kept hX_w12 (Nat.le_refl _))
          replace hB := hB.trans (hX_w12.mono hB.size)
          replace hX := hX.trans (hX_w12.mono hX.size)
          clear hX_w12
          have hG3 : decide (U.length < G + I.length) = false := by simp; omega
          have hG4 : decide ((U.length : Int) < (G : Int) + (I.length : Int)) = false := by simp; omega
          go_wp2_with fail
          obtain ⟨g1, g2, g3, g4, g5, g6, g7⟩ := flush_next hp e0 e1 HR.out hX rfl
          exact ⟨⟨O, I.length, G + I.length, w12.heap.size, a5, x5, b5, y5, rfl, by go_num, rfl, HI5, g1, g2, g3, g4, g5, g6, g7⟩, by simp [intOf]; omega⟩

end Go.Proofs.Ytlmlmkeomlehmaa
