/-
  The walk of TableApart.
-/
import Derived.Test.YtblleinahlaohaaBtw
import Derived.Test.YtblleinahlaohaaZla
namespace Go.Proofs.Ytblleinahlaohaa
open Go.RowKit Go.Shelf
set_option linter.unusedVariables false
attribute [local go_sem ↓] Go.wp_at_zero Go.wp_at_succ

theorem keys_block {w : World} {b n : Nat} {l : List Int} (h : Keys w b n l) : ∃ es cl, w.heap[b]? = some (.map es cl) := by
  obtain ⟨D, ⟨es, cl, hb, _⟩, _⟩ := h
  exact ⟨es, cl, hb⟩
theorem cell_not_map {w : World} {b p o : Nat} {v : Value} {es : Array MapEntry} {cl : Nat} (hb : w.heap[b]? = some (.map es cl)) (hc : w.cell? ⟨p, o, none⟩ = some v) : some p ≠ some b := by
  intro e
  injection e with e
  subst e
  simp [World.cell?, hb] at hc
theorem Ints.grown {w w' : World} {bm : Nat} {sv : Value} {zs : List Int} {es : Array MapEntry} {cl : Nat} (h : Ints w.heap.size w sv zs) (hb : w.heap[bm]? = some (.map es cl)) (hg : w.grownBy w' (some bm)) : Ints w'.heap.size w' sv zs := by
  rcases h with h | ⟨b, off, cap, rfl, hlt, hc⟩
  · exact Or.inl h
  · exact Or.inr ⟨b, off, cap, rfl, Nat.lt_of_lt_of_le hlt hg.size, fun j hj => hg.cell (hc j hj) (cell_not_map hb (hc j hj))⟩
theorem BoxT.grown {w w' : World} {b bm : Nat} {nb sp : Int} {sv : Value} {zs : List Int} {es : Array MapEntry} {cl : Nat} (h : BoxT w b nb sp sv zs) (hb : w.heap[bm]? = some (.map es cl)) (hg : w.grownBy w' (some bm)) : BoxT w' b nb sp sv zs := by
  have hne := cell_not_map hb h.e0
  exact ⟨hg.cell h.e0 hne, hg.cell h.e1 hne, hg.cell h.e2 hne, fun o => (World.frozen?_of_block (hg.block b h.lt hne)).trans (h.g o), h.ints.grown hb hg⟩
theorem underBy : Try.prog.underlying 22 = some (.slice (Try.prog.elem 22)) := by rw [show Try.prog.elem 22 = 5 by kernel_rfl]; exact Try.underlying22
theorem sizeElemBy (w : World) : (sizeOf (Try.prog.elem 22)).run Try.prog w = .ok 1 w := by kernel_rfl
theorem cut_By (ao : Option Addr) (n c i : Nat) (hin : i ≤ n) (hnc : n ≤ c) (w : World) : (Instr.slice 22 (.slice ao n c) none (some (.int .i64 (i : Int))) none).run Try.prog w = .ok (.slice ao i c) w := by
  rw [run_slice_h w 22 ao n c underBy .i64 i (by omega) (by omega)]
  rw [sizeElemBy]
  have e : ao.map (·.add 0) = ao := by cases ao <;> simp [Addr.add]
  simp [Result.andThen, sliced, e]

theorem rem15 (y r : Nat) (h : y % 15 = r) (hy : y < 256) (w : World) : (binOp .rem 3 (.int .i64 (y : Nat)) (.int .i64 15)).run Try.prog w = .ok (.int .i64 (r : Nat)) w := by
  have h1 : ((y : Nat) : Int).tmod 15 = (r : Int) := by rw [Int.tmod_eq_emod_of_nonneg (by omega)]; omega
  simp [binOp, go_sem, h1]
set_option maxRecDepth 100000 in
set_option maxHeartbeats 16000000 in
theorem tableApart_walk (ao : Option Addr) (c : Nat) (l : List Int) (w : World) (hs : SlAt (fun x : Int => [Value.int .u8 x]) 1 w ao l) (hc : l.length ≤ c) (hx : ∀ x ∈ l, 0 ≤ x ∧ x < 256) (hl : (l.length : Int) ≤ 9223372036854775807) (hcc : (c : Int) ≤ 9223372036854775807) :
    Calls Try.prog 3 #[.slice ao l.length c] w fun e w' => e = .returned (.bool true) ∧ Below w.heap.size w w' := by
  have hmin := fun ts t a b w => run_tmin (P := Try.prog) ts t a b w
  have hm1 : tmin (l.length : Int) 30 = ((min l.length 30 : Nat) : Int) := tmin_nat l.length 30
  obtain ⟨m, hm⟩ : ∃ m, m = min l.length 30 := ⟨_, rfl⟩
  rw [← hm] at hm1
  have hcut := fun w => cut_By ao l.length c m (by omega) hc w
  have HS := Lib.hid hs
  have HX := Lib.hid hx
  have hml : m ≤ l.length := by omega
  clear hs hx hm
  go_enter Try.func3, Try.ntmps3
  go_wp2_with fail
  refine (new_ok 15 12 w (by decide) (by decide) (by decide) (by decide)).mono ?_
  rintro e w1 ⟨rfl, hB1⟩
  go_upto_region 2 with (fail)
  obtain ⟨w2, hw2⟩ : ∃ w2, w2 = w1.alloc (.cells #[.int .i64 15, .int .i64 12, .slice none 0 0] 25) := ⟨_, rfl⟩
  have b1 := Lib.hid (BoxT.new (w := w1) (nb := 15) (sp := 12) (sv := .slice none 0 0) (zs := []) rfl (Or.inl ⟨rfl, rfl⟩) 25)
  have hL2 := Lib.hid (hB1.trans ((show Below w1.heap.size w1 (w1.alloc (.cells #[.int .i64 15, .int .i64 12, .slice none 0 0] 25)) by go_grown).mono hB1.size))
  have hw1 := hB1.size
  rw [← hw2] at b1 hL2 ⊢
  clear hw2 hB1
  go_wp2_with fail
  refine (wakes06 w2).mono ?_
  rintro e w3 ⟨rfl, hB3⟩
  have b13 := Lib.hid (b1.out.on hB3)
  have hL3 := Lib.hid (hL2.out.trans (hB3.mono hL2.out.size))
  clear hB3 b1 hL2
  go_wp2_with fail
  go_loopw [33] (fun i wr => ∃ (j : Nat) (sa : Option Addr) (sn sc : Nat) (zs : List Int), i = .int .i64 j ∧ j ≤ m ∧ sn = zs.length ∧ sn ≤ 12 ∧ Hid (∀ z ∈ zs, 0 ≤ z ∧ z < 15) ∧ Hid (BoxT wr w1.heap.size 15 12 (.slice sa sn sc) zs) ∧ Hid (∀ k, (Value.slice sa sn sc).ownBlock = some k → w1.heap.size < k) ∧ Below w.heap.size w wr) (fun i _ => m - (intOf i).toNat)
  case atStart => exact ⟨0, none, 0, 0, [], rfl, Nat.zero_le _, rfl, by omega, Lib.hid (fun z hz => by simp at hz), b13, Lib.hid (fun k e => by simp [Value.ownBlock] at e), hL3.out⟩
  case round =>
    obtain ⟨j, sa, sn, sc, zs, rfl, hj, hsn, hs12, HZ, B, HV, hB⟩ := hrel
    have HSN := Lib.hid hsn
    clear hsn
    have hj0 : (0 : Int) ≤ (j : Int) := Int.natCast_nonneg _
    have hzr := hB.size
    have hbl := B.out.lt
    by_cases hjm : j < m
    · have hj1 : (j : Int) < (m : Int) := by omega
      obtain ⟨b, off, rfl, hb, hcl⟩ := HS.out.at (by omega)
      have q0 := (cell_below hB hb _).trans (hcl j (by omega) 0 _ rfl)
      simp only [Nat.add_zero, Nat.mul_one] at q0
      obtain ⟨hx0, hx1⟩ := HX.out _ (List.getElem_mem (show j < l.length by omega))
      clear hcl
      generalize l[j]'(by omega) = x at *
      obtain ⟨y, rfl⟩ := Int.eq_ofNat_of_zero_le hx0
      have hwy : IntKind.i64.wrap ((y : Nat) : Int) = ((y : Nat) : Int) := IntWalk.i64_in _ (by omega)
      have hr15 : 0 ≤ ((y : Nat) : Int) % 15 ∧ ((y : Nat) : Int) % 15 < 15 := by omega
      obtain ⟨k0, k1, k2, -, -⟩ := B.out
      by_cases hfull : sn < 12
      · go_wp2_with fail
        refine (move_ok 15 12 (.slice sa sn sc) zs (((y : Nat) : Int) % 15) wr B.out.ints hr15 (by have := HSN.out; omega) (by decide)).mono ?_
        rintro e w4 ⟨⟨v4, rfl, hi4, hv4⟩, hB4⟩
        obtain ⟨va, vc, hv⟩ := hi4.len
        rw [List.length_append, ← HSN.out, List.length_singleton] at hv
        subst hv
        have B4 := Lib.hid (B.out.on hB4)
        have HI4 := Lib.hid hi4
        have HV4 := Lib.hid hv4
        have HL4 := Lib.hid (hB.trans (hB4.mono hzr))
        have hz4 := hB4.size
        clear k0 k1 k2 hi4 hv4 hB4
        go_upto_region 8 with (fail)
        have hX : Below w4.heap.size w4 (w4.alloc (.cells #[.int .i64 15, .int .i64 12, .slice va (sn + 1) vc] 25)) := by go_grown
        have B7 := Lib.hid (BoxT.new (w := w4) (nb := 15) (sp := 12) rfl HI4.out 25)
        obtain ⟨w5, hw5⟩ : ∃ w5, w5 = w4.alloc (.cells #[.int .i64 15, .int .i64 12, .slice va (sn + 1) vc] 25) := ⟨_, rfl⟩
        have B5 := Lib.hid (B4.out.on hX)
        have HL5 := Lib.hid (HL4.out.trans (hX.mono HL4.out.size))
        rw [← hw5] at B7 B5 HL5 ⊢
        clear hw5 hX B4 HI4 HL4
        obtain ⟨k0, k1, k2, -, -⟩ := B7.out
        obtain ⟨r0, r1, r2, rg, -⟩ := B5.out
        have rg0 := rg 0
        have rg1 := rg 1
        have rg2 := rg 2
        go_wp2_with fail
        obtain ⟨Z, hZ⟩ : ∃ Z, Z = ((w5.setCell ⟨w1.heap.size, 0, none⟩ (.int .i64 15)).setCell ⟨w1.heap.size, 1, none⟩ (.int .i64 12)).setCell ⟨w1.heap.size, 2, none⟩ (.slice va (sn + 1) vc) := ⟨_, rfl⟩
        have hvne : (Value.slice va (sn + 1) vc).ownBlock ≠ some w1.heap.size := fun e => by have := HV4.out _ e; omega
        obtain ⟨P1, P2⟩ := B5.out.put (nb' := 15) (sp' := 12) B7.out.ints hvne hZ
        rw [← hZ]
        exact ⟨⟨j + 1, va, sn + 1, vc, zs ++ [((y : Nat) : Int) % 15], by go_num, by omega, by rw [List.length_append, List.length_singleton, HSN.out], by omega, Lib.hid (fun z hz => by
          rcases List.mem_append.1 hz with h1 | h1
          · exact HZ.out z h1
          · rw [List.mem_singleton.1 h1]; exact hr15), Lib.hid P1, Lib.hid (fun k e => by have := HV4.out k e; omega), P2 _ _ HL5.out hw1⟩, by simp [intOf]; omega⟩
      · obtain rfl : sn = 12 := by omega
        go_wp2_with fail
        refine (move_full 15 12 (.slice sa 12 sc) zs (((y : Nat) : Int) % 15) wr B.out.ints hr15 (by have := HSN.out; omega) (by have := HSN.out; omega)).mono ?_
        rintro e w4 ⟨rfl, hB4⟩
        have B4 := Lib.hid (B.out.on hB4)
        have HL4 := Lib.hid (hB.trans (hB4.mono hzr))
        clear k0 k1 k2 hB4
        go_upto_region 8 with (fail)
        have hX : Below w4.heap.size w4 (w4.alloc (.cells #[.int .i64 0, .int .i64 0, .slice none 0 0] 25)) := by go_grown
        obtain ⟨w5, hw5⟩ : ∃ w5, w5 = w4.alloc (.cells #[.int .i64 0, .int .i64 0, .slice none 0 0] 25) := ⟨_, rfl⟩
        have B5 := Lib.hid (B4.out.on hX)
        have HL5 := Lib.hid (HL4.out.trans (hX.mono HL4.out.size))
        rw [← hw5] at B5 HL5 ⊢
        clear hw5 hX B4 HL4
        obtain ⟨r0, r1, r2, -, -⟩ := B5.out
        go_wp2_with fail
        refine (left_any 15 12 sa 12 sc w5 (by decide) (by decide) (by decide)).mono ?_
        rintro e w6 ⟨rfl, hB6⟩
        have B6 := Lib.hid (B5.out.on hB6)
        have HL6 := Lib.hid (HL5.out.trans (hB6.mono HL5.out.size))
        clear hB6
        go_wp2_with fail
        exact ⟨⟨j + 1, sa, 12, sc, zs, by go_num, by omega, HSN.out, by omega, HZ, B6, HV, HL6.out⟩, by simp [intOf]; omega⟩
    · obtain rfl : j = m := by omega
      obtain ⟨wq, hwq⟩ : ∃ wq, wq = wr := ⟨_, rfl⟩
      subst hwq
      obtain ⟨k0, k1, k2, -, -⟩ := B.out
      go_wp2_with fail
      refine (text_any 15 12 (.slice sa sn sc) zs wq B.out.ints (fun z hz => by have := HZ.out z hz; omega) (by have := HSN.out; omega)).mono ?_
      rintro e w4 ⟨rfl, hB4⟩
      have B4 := Lib.hid (B.out.on hB4)
      have HL4 := Lib.hid (hB.trans (hB4.mono hzr))
      clear k0 k1 k2 hB4
      go_wp2_with fail
      refine (parse_text 15 12 zs w4 (by decide) (by decide) (fun z hz => HZ.out z hz) (by have := HSN.out; omega)).mono ?_
      rintro e w5 ⟨⟨v5, rfl, hi5, hv5⟩, hB5⟩
      obtain ⟨pa, pc, hv⟩ := hi5.len
      rw [← HSN.out] at hv
      subst hv
      have B5 := Lib.hid (B4.out.on hB5)
      have HI5 := Lib.hid hi5
      have HL5 := Lib.hid (HL4.out.trans (hB5.mono HL4.out.size))
      clear B4 HL4 hi5 hv5 hB5
      go_upto_region 14 with (fail)
      have hX : Below w5.heap.size w5 (w5.alloc (.cells #[.int .i64 15, .int .i64 12, .slice pa sn pc] 25)) := by go_grown
      have B9 := Lib.hid (BoxT.new (w := w5) (nb := 15) (sp := 12) rfl HI5.out 25)
      obtain ⟨w6, hw6⟩ : ∃ w6, w6 = w5.alloc (.cells #[.int .i64 15, .int .i64 12, .slice pa sn pc] 25) := ⟨_, rfl⟩
      have B6 := Lib.hid (B5.out.on hX)
      have HL6 := Lib.hid (HL5.out.trans (hX.mono HL5.out.size))
      rw [← hw6] at B9 B6 HL6 ⊢
      clear hw6 hX B5 HI5 HL5
      have D9 := Lib.hid (B9.out.on (below_drew' (Below.refl _ w6)))
      have D6 := Lib.hid (B6.out.on (below_drew' (Below.refl _ w6)))
      obtain ⟨k0, k1, k2, -, -⟩ := D9.out
      obtain ⟨d0, d1, d2, -, -⟩ := D6.out
      have hl9 := Lib.hid (fun (w' : World) => left_any 15 12 pa sn pc w' (by decide) (by decide) (by omega))
      have hl6 := Lib.hid (fun (w' : World) => left_any 15 12 sa sn sc w' (by decide) (by decide) (by omega))
      have hLd := Lib.hid (below_drew' HL6.out)
      go_region_held3 (fun w' => w'.cell? ⟨w5.heap.size, 0, none⟩ = some (.int .i64 15) ∧ w'.cell? ⟨w5.heap.size, 1, none⟩ = some (.int .i64 12) ∧ w'.cell? ⟨w5.heap.size, 2, none⟩ = some (.slice pa sn pc) ∧ w'.cell? ⟨w1.heap.size, 0, none⟩ = some (.int .i64 15) ∧ w'.cell? ⟨w1.heap.size, 1, none⟩ = some (.int .i64 12) ∧ w'.cell? ⟨w1.heap.size, 2, none⟩ = some (.slice sa sn sc) ∧ Below w6.heap.size w6 w')
        (first | assumption | exact ⟨k0, k1, k2, d0, d1, d2, below_drew' (Below.refl _ _)⟩ | exact HC7.out)
        (first
          | (go_at_call_of 10 (Value.slice pa sn pc); go_must (obtain ⟨m0, m1, m2, m3, m4, m5, m6⟩ := ‹_ ∧ _ ∧ _ ∧ _ ∧ _ ∧ _ ∧ Below _ _ _›; refine (hl9.out _).mono ?_; rintro e w7 ⟨rfl, hB7⟩; have HC7 := Lib.hid (And.intro (kept_cell hB7 m0) (And.intro (kept_cell hB7 m1) (And.intro (kept_cell hB7 m2) (And.intro (kept_cell hB7 m3) (And.intro (kept_cell hB7 m4) (And.intro (kept_cell hB7 m5) (m6.trans (hB7.mono m6.size)))))))); clear hB7 m0 m1 m2 m3 m4 m5 m6))
          | (go_at_call_of 10 (Value.slice sa sn sc); go_must (obtain ⟨m0, m1, m2, m3, m4, m5, m6⟩ := ‹_ ∧ _ ∧ _ ∧ _ ∧ _ ∧ _ ∧ Below _ _ _›; refine (hl6.out _).mono ?_; rintro e w7 ⟨rfl, hB7⟩; have HC7 := Lib.hid (And.intro (kept_cell hB7 m0) (And.intro (kept_cell hB7 m1) (And.intro (kept_cell hB7 m2) (And.intro (kept_cell hB7 m3) (And.intro (kept_cell hB7 m4) (And.intro (kept_cell hB7 m5) (m6.trans (hB7.mono m6.size)))))))); clear hB7 m0 m1 m2 m3 m4 m5 m6)))
      all_goals
        have hBz := HC7.out.2.2.2.2.2.2
        have E9 := Lib.hid (B9.out.on hBz)
        have E6 := Lib.hid (B6.out.on hBz)
        have HL7 := Lib.hid (HL6.out.trans (hBz.mono HL6.out.size))
        clear hBz HC7 k0 k1 k2 d0 d1 d2 D9 D6 hl9 hl6 hLd B9 B6 HL6
        obtain ⟨wk, hwk⟩ : ∃ wk, wk = w7 := ⟨_, rfl⟩
        subst hwk
        have hmm := @run_makeMap Try.prog
        have HK0 := Lib.hid (Keys.start wk)
        have hXk : Below wk.heap.size wk (wk.alloc (.map #[] 0)) := (Below.refl _ wk).alloc (Nat.le_refl _) _
        have F9 := Lib.hid (E9.out.on hXk)
        have F6 := Lib.hid (E6.out.on hXk)
        have HLk := Lib.hid (HL7.out.trans (hXk.mono HL7.out.size))
        have hwkL := HL7.out.size
        clear hXk E9 E6 HL7
        go_wp2_with fail
        go_loopw [72] (fun i wr => ∃ (q : Nat) (ps : List Int), i = .int .i64 q ∧ q ≤ 15 ∧ Hid (Keys wr wk.heap.size q ps) ∧ Hid (∀ p ∈ ps, ∃ b : Int, 0 ≤ b ∧ b < q ∧ PlaceIs 15 zs b p) ∧ Hid (BoxT wr w5.heap.size 15 12 (.slice pa sn pc) zs) ∧ Hid (BoxT wr w1.heap.size 15 12 (.slice sa sn sc) zs) ∧ Hid (Below w.heap.size w wr)) (fun i _ => 15 - (intOf i).toNat)
        case atStart => exact ⟨0, [], rfl, by omega, HK0, Lib.hid (fun p hp => by simp at hp), F9, F6, HLk⟩
        case round =>
          obtain ⟨q, ps, rfl, hq, HK, HP, G9, G6, HL⟩ := hrel
          have hq0 : (0 : Int) ≤ (q : Int) := Int.natCast_nonneg _
          by_cases hq15 : q < 15
          · have hq1 : (q : Int) < 15 := by omega
            obtain ⟨k0, k1, k2, -, -⟩ := G6.out
            go_wp2_with fail
            refine (at_any 15 12 (.slice sa sn sc) zs (q : Nat) wr G6.out.ints (by omega) (by decide) (by have := HSN.out; omega)).mono ?_
            rintro e v1 ⟨⟨p, rfl, hp⟩, hB1⟩
            have G91 := Lib.hid (G9.out.on hB1)
            have G61 := Lib.hid (G6.out.on hB1)
            have HK1 := Lib.hid (HK.out.below hB1)
            have HL1 := Lib.hid (HL.out.trans (hB1.mono HL.out.size))
            clear hB1 G9 G6 HK HL k0 k1 k2
            obtain ⟨k0, k1, k2, -, -⟩ := G91.out
            go_wp2_with fail
            refine (at_any 15 12 (.slice pa sn pc) zs (q : Nat) v1 G91.out.ints (by omega) (by decide) (by have := HSN.out; omega)).mono ?_
            rintro e v2 ⟨⟨p', rfl, hp'⟩, hB2⟩
            obtain rfl : p' = p := hp'.unique hp
            have G92 := Lib.hid (G91.out.on hB2)
            have G62 := Lib.hid (G61.out.on hB2)
            have HK2 := Lib.hid (HK1.out.below hB2)
            have HL2 := Lib.hid (HL1.out.trans (hB2.mono HL1.out.size))
            have hrg : 0 ≤ p' ∧ p' < 27 := by have := place_range hp (by have := HSN.out; omega); have := HSN.out; omega
            have hpn : decide (p' ∈ ps) = false := by
              simp only [decide_eq_false_iff_not]
              intro hm
              obtain ⟨b', h1, h2, h3⟩ := HP.out p' hm
              have := place_apart h3 hp (by omega) (by omega)
              omega
            have hlk := Keys.look HK2.out p' (by omega) (by omega)
            rw [hpn] at hlk
            have HPP := Lib.hid hp
            clear hB2 G91 G61 HK1 HL1 k0 k1 k2 hp hp' hpn
            have hpl : ¬ p' < 0 := by omega
            have hph : ¬ (27 : Int) ≤ p' := by omega
            have hKo := HK2.out
            go_wp2_with (at_mapUpdate; refine wpList_put_set _ rfl _ _ _ 34 rfl 3 4 (Maps.int_keyed Try.underlying3) Try.underlying34 Try.underlying4 wk.heap.size q _ rfl hKo (by unfold maxLen; omega) (.int .i64 p') true (.int .i64 p') rfl rfl (int_key (by omega) (by omega)) trivial (inL (ps ++ [p'])) (inL_new _ _) (inL_old _ _) ?_; intro v3 hK3 hg3; go_frame)
            obtain ⟨es, cl, hmb⟩ := keys_block HK2.out
            have G93 := Lib.hid (G92.out.grown hmb hg3)
            have G63 := Lib.hid (G62.out.grown hmb hg3)
            have HL3 := Lib.hid (below_grown HL2.out hg3 (fun k e => by injection e with e; omega) HL2.out.size)
            have HP3 := Lib.hid (show ∀ p ∈ ps ++ [p'], ∃ b : Int, 0 ≤ b ∧ b < ((q + 1 : Nat) : Int) ∧ PlaceIs 15 zs b p from fun p hp => by
              rcases List.mem_append.1 hp with h1 | h1
              · obtain ⟨b', g1, g2, g3⟩ := HP.out p h1
                exact ⟨b', g1, by omega, g3⟩
              · rw [List.mem_singleton.1 h1]; exact ⟨(q : Nat), hq0, by omega, HPP.out⟩)
            have HK3 := Lib.hid hK3
            clear hK3 hg3 hmb hKo hlk
            exact ⟨⟨q + 1, ps ++ [p'], by go_num, by omega, HK3, HP3, G93, G63, HL3⟩, by simp [intOf]; omega⟩
          · obtain rfl : q = 15 := by omega
            go_wp2_with fail
            go_ret
            exact ⟨rfl, HL.out⟩

end Go.Proofs.Ytblleinahlaohaa
