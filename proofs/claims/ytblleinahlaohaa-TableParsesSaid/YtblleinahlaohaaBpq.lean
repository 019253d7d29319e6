/-
  The walk of a table's Parse, at bytes of no table.
-/
import Derived.Test.YtblleinahlaohaaBpr
namespace Go.Proofs.Ytblleinahlaohaa
open Go.RowKit Go.Shelf
set_option linter.unusedVariables false
attribute [local go_sem ↓] Go.wp_at_zero Go.wp_at_succ

theorem move_no (nb sp : Int) (sv : Value) (zs : List Int) (x : Int) (w : World) (h : Ints w.heap.size w sv zs) (hl : (zs.length : Int) ≤ sp) (hsp : sp ≤ 32) (hx : ¬ ((0 ≤ x ∧ x < nb) ∧ (zs.length : Int) < sp)) :
    Calls Try.prog 9 #[.agg #[.int .i64 nb, .int .i64 sp, sv], .int .i64 x] w fun e w' => (∃ ev : Int, ev ≠ 0 ∧ e = .returned (.tuple #[.agg #[.int .i64 0, .int .i64 0, .slice none 0 0], .int .i64 ev])) ∧ Below w.heap.size w w' := by
  by_cases hr : 0 ≤ x ∧ x < nb
  · exact (move_full nb sp sv zs x w h hr (by omega) (by omega)).mono fun e w' ⟨he, hb⟩ => ⟨⟨9, by decide, he⟩, hb⟩
  · exact (move_range nb sp sv zs x w h hr).mono fun e w' ⟨he, hb⟩ => ⟨⟨3, by decide, he⟩, hb⟩

theorem numL_le8 (n : Nat) (h : n < 256 ^ 8) (r : List UInt8) : numL ((le n 8 ++ r).take 8) = n := by
  rw [List.take_left' (by rw [le_length]), numL_le]; exact Nat.mod_eq_of_lt h

set_option maxRecDepth 100000 in
set_option maxHeartbeats 8000000 in
theorem parse_no (nb sp : Int) (s : List UInt8) (w : World) (hm : MayBe nb sp) (h8 : 8 ≤ s.length) (hl : s.length ≤ 1000) (hno : ∀ zs, ¬ GoodT nb sp s zs) :
    Calls Try.prog 11 #[.string (S s), .int .i64 nb, .int .i64 sp] w fun e w' => e = .returned (.tuple #[.agg #[.int .i64 0, .int .i64 0, .slice none 0 0], .int .i64 4]) ∧ Below w.heap.size w w' := by
  obtain ⟨hn0, hn1, hs0, hs1⟩ := hm
  obtain ⟨N, r0, hN, rfl⟩ := as_num1 8 s h8
  have e0 : wtext [(8, N)] = le N 8 := by simp [wtext]
  have hNf : N < 256 ^ 8 := hN (8, N) (by simp)
  have hrl0 : r0.length ≤ 992 := by rw [e0, List.length_append, le_length] at hl; omega
  have HNO := Lib.hid hno
  clear hno hl h8
  go_enter Try.func11, Try.ntmps11
  go_upto_region 1 with (fail)
  have B6 := Lib.hid (BoxT.new (w := w) (nb := 0) (sp := 0) (sv := .slice none 0 0) (zs := []) rfl (Or.inl ⟨rfl, rfl⟩) 25)
  obtain ⟨W, hW⟩ : ∃ W, W = w.alloc (.cells #[.int .i64 0, .int .i64 0, .slice none 0 0] 25) := ⟨_, rfl⟩
  rw [← hW] at B6 ⊢
  have hX : Below w.heap.size w W := by rw [hW]; go_grown
  have hWz : W.heap.size = w.heap.size + 1 := by rw [hW]; simp
  clear hW
  go_wp2_with fail
  refine (new_ok nb sp W hn0 hn1 hs0 hs1).mono ?_
  rintro e w1 ⟨rfl, hB1⟩
  have B61 := Lib.hid (B6.out.on hB1)
  have HL1 := Lib.hid (hX.trans (hB1.mono (by omega)))
  have hz1 := hB1.size
  clear B6 hB1 hX
  go_upto_region 2 with (fail)
  have hX2 : Below w1.heap.size w1 (w1.alloc (.cells #[.int .i64 nb, .int .i64 sp, .slice none 0 0] 25)) := by go_grown
  have B8 := Lib.hid (BoxT.new (w := w1) (nb := nb) (sp := sp) (sv := .slice none 0 0) (zs := []) rfl (Or.inl ⟨rfl, rfl⟩) 25)
  have B62 := Lib.hid (B61.out.on hX2)
  have HL2 := Lib.hid (HL1.out.trans (hX2.mono (by omega)))
  obtain ⟨w2, hw2⟩ : ∃ w2, w2 = w1.alloc (.cells #[.int .i64 nb, .int .i64 sp, .slice none 0 0] 25) := ⟨_, rfl⟩
  rw [← hw2] at B8 B62 HL2 ⊢
  have HZ2 := Lib.hid (show w2.heap.size = w1.heap.size + 1 by rw [hw2]; simp)
  clear hw2 hX2 B61 HL1
  go_wp2_with fail
  have hX3 : Below w2.heap.size w2 (w2.alloc (.cells #[.int .i64 8] 3)) := by go_grown
  have HW := Lib.hid (intsW_new w2 #[.int .i64 8] 3 (0, 0) [(8, N)] rfl)
  refine (read_ok (some ⟨w2.heap.size, 0, none⟩) 1 [(8, N)] r0 _ HW.out (wide1 8 _ (by decide) (by decide)) hN (by simp) (by omega)).mono ?_
  rintro e w3 ⟨⟨ga, gc, rfl, hgn⟩, hB3⟩
  have B83 := Lib.hid ((B8.out.on hX3).on hB3)
  have B63 := Lib.hid ((B62.out.on hX3).on hB3)
  have HL3 := Lib.hid (HL2.out.trans ((hX3.mono HL2.out.size).trans (hB3.mono (by have := HL2.out.size; simp; omega))))
  have HG := Lib.hid hgn
  have hz3 : w2.heap.size + 1 ≤ w3.heap.size := by have := hB3.size; simpa using this
  clear hX3 HW hB3 B8 B62 HL2 hgn
  have HNF := Lib.hid hNf
  rw [e0] at HNO
  clear hN e0 hNf
  go_wp2_with fail
  have hg0 : ∃ gb go, ga = some ⟨gb, go, none⟩ ∧ w3.cell? ⟨gb, go, none⟩ = some (.int .u64 (N : Nat)) := by
    obtain ⟨gb, go, e, hb, hc⟩ := HG.out.at (by simp)
    exact ⟨gb, go, e, by have := hc 0 (by simp) 0 _ rfl; simpa using this⟩
  obtain ⟨gb, go, rfl, hgc⟩ := hg0
  have HGC := Lib.hid hgc
  clear hgc HG
  go_loopw [0, 9, 11] (fun s e ok wr => ∃ (o : Bool) (r : List UInt8) (nb' sp' : Int) (sv : Value) (zs zz : List Int) (ev : Int), s = .string (S r) ∧ e = .int .i64 ev ∧ ok = .bool o ∧ r.length ≤ 992 ∧ Hid (o = true → nb = nb' ∧ sp = sp' ∧ zs = zz ∧ r0 = tailL zs ++ r ∧ (∀ z ∈ zs, 0 ≤ z ∧ z < nb) ∧ (zs.length : Int) ≤ sp) ∧ Hid (BoxT wr w1.heap.size nb' sp' sv zz) ∧ Hid (∀ k, sv.ownBlock = some k → w.heap.size < k) ∧ Hid (BoxT wr w.heap.size 0 0 (.slice none 0 0) []) ∧ Hid (wr.cell? ⟨gb, go, none⟩ = some (.int .u64 (N : Nat))) ∧ Hid (Below w.heap.size w wr) ∧ w3.heap.size ≤ wr.heap.size) (fun s _ ok _ => strOf s)
  case atStart => exact ⟨true, r0, nb, sp, _, [], [], 0, rfl, rfl, rfl, hrl0, Lib.hid (fun _ => ⟨rfl, rfl, rfl, rfl, fun z hz => by simp at hz, hs0⟩), B83, Lib.hid (fun k e => by simp [Value.ownBlock] at e), B63, HGC, HL3, Nat.le_refl _⟩
  case round =>
    obtain ⟨o, r, nb', sp', sv, zs, zz, ev, rfl, rfl, rfl, hrl, HI, B8, HV, B6, HC, HL, hzr⟩ := hrel
    cases o with
    | false =>
      go_upto_region 11 with (fail)
      obtain ⟨q0, q1, q2, rg, -⟩ := B6.out
      have rg0 := rg 0
      have rg1 := rg 1
      have rg2 := rg 2
      go_region
      go_wp2_with fail
      obtain ⟨Z, hZ⟩ : ∃ Z, Z = ((wr.setCell ⟨w.heap.size, 0, none⟩ (.int .i64 0)).setCell ⟨w.heap.size, 1, none⟩ (.int .i64 0)).setCell ⟨w.heap.size, 2, none⟩ (.slice none 0 0) := ⟨_, rfl⟩
      obtain ⟨P1, P2⟩ := B6.out.put (nb' := 0) (sp' := 0) B6.out.ints (by simp [Value.ownBlock]) hZ
      rw [← hZ]
      obtain ⟨s0, s1, s2, -, si⟩ := P1
      exact bodyPost_ret (v := .tuple #[.agg #[.int .i64 0, .int .i64 0, .slice none 0 0], .int .i64 4]) (by simp [results, Try.results11, go_sem, s0, s1, s2]) rfl ⟨rfl, below_drew' (P2 _ _ HL.out (Nat.le_refl _))⟩
    | true =>
      obtain ⟨rfl, rfl, rfl, hr0, hzs, hzl⟩ := HI.out rfl
      have HR0 := Lib.hid hr0
      have HZS := Lib.hid hzs
      clear HI hr0 hzs
      by_cases hre : r = []
      · subst hre
        have hNe : N ≠ zs.length := fun e => HNO.out zs ⟨by unfold textL; rw [HR0.out, List.append_nil, e], HZS.out, hzl⟩
        obtain ⟨sa, sc, hsv⟩ := B8.out.ints.len
        subst hsv
        go_upto_region 11 with (fail)
        have D8 := Lib.hid (B8.out.on (below_drew' (Below.refl _ wr)))
        have D6 := Lib.hid (B6.out.on (below_drew' (Below.refl _ wr)))
        have d4 := cell_drew HC.out
        obtain ⟨d0, d1, d2, -, -⟩ := D8.out
        have hgn := Lib.hid (fun (w' : World) => gen_any nb sp sa zs.length sc w' (by omega))
        go_region_with ((go_at_call 20; go_must (refine (hgn.out _).mono ?_; rintro e w6 ⟨rfl, hB6⟩; have B66 := Lib.hid (D6.out.on hB6); have HC6 := (kept_cell hB6 d4); have HL6 := Lib.hid ((below_drew' HL.out).trans (hB6.mono HL.out.size)); have hz6 := hB6.size; clear hB6)))
        all_goals
          obtain ⟨r0, r1, r2, rg, -⟩ := B66.out
          have rg0 := rg 0
          have rg1 := rg 1
          have rg2 := rg 2
          have hNi : ¬ ((N : Nat) : Int) = ((zs.length : Nat) : Int) := by omega
          go_wp2_with fail
          obtain ⟨Z, hZ⟩ : ∃ Z, Z = ((w6.setCell ⟨w.heap.size, 0, none⟩ (.int .i64 0)).setCell ⟨w.heap.size, 1, none⟩ (.int .i64 0)).setCell ⟨w.heap.size, 2, none⟩ (.slice none 0 0) := ⟨_, rfl⟩
          obtain ⟨P1, P2⟩ := B66.out.put (nb' := 0) (sp' := 0) B66.out.ints (by simp [Value.ownBlock]) hZ
          rw [← hZ]
          obtain ⟨s0, s1, s2, -, si⟩ := P1
          exact bodyPost_ret (v := .tuple #[.agg #[.int .i64 0, .int .i64 0, .slice none 0 0], .int .i64 4]) (by simp [results, Try.results11, go_sem, s0, s1, s2]) rfl ⟨rfl, P2 _ _ HL6.out (Nat.le_refl _)⟩
      · have hpos : 1 ≤ r.length := by cases r with
          | nil => exact absurd rfl hre
          | cons a b => simp
        by_cases h2 : 2 ≤ r.length
        · obtain ⟨y, R, hyf, rfl⟩ := as_num1 2 r h2
          have ey : wtext [(2, y)] = le y 2 := by simp [wtext]
          have hy : y < 65536 := hyf (2, y) (by simp)
          have hRl : R.length ≤ 990 := by rw [ey, List.length_append, le_length] at hrl; omega
          have hrs : ¬ (wtext [(2, y)] ++ R).isEmpty = true := by simpa using hre
          have hr1 : (S R).size < (S (wtext [(2, y)] ++ R)).size := by rw [S_size, S_size, ey, List.length_append, le_length]; omega
          obtain ⟨sa, sc, hsv⟩ := B8.out.ints.len
          subst hsv
          clear hre hpos h2
          obtain ⟨s2, hs2⟩ : ∃ s2, s2 = wtext [(2, y)] ++ R := ⟨_, rfl⟩
          rw [← hs2] at hrs hr1 HR0 hrl ⊢
          have HS2 := Lib.hid hs2
          clear hs2
          go_wp2_with fail
          rw [HS2.out]
          have hX : Below wr.heap.size wr (wr.alloc (.cells #[.int .i64 2] 3)) := by go_grown
          have HW := Lib.hid (intsW_new wr #[.int .i64 2] 3 (0, 0) [(2, y)] rfl)
          refine (read_ok (some ⟨wr.heap.size, 0, none⟩) 1 [(2, y)] R _ HW.out (wide1 2 _ (by decide) (by decide)) hyf (by simp) (by omega)).mono ?_
          rintro e w4 ⟨⟨a4, c4, rfl, hn4⟩, hB4⟩
          obtain ⟨b4, o4, rfl, -, hc4⟩ := hn4.at (by simp)
          have n4 : w4.cell? ⟨b4, o4, none⟩ = some (.int .u64 (y : Nat)) := by have := hc4 0 (by simp) 0 _ rfl; simpa using this
          have B84 := Lib.hid ((B8.out.on hX).on hB4)
          have B64 := Lib.hid ((B6.out.on hX).on hB4)
          have HC4 := Lib.hid (kept_cell hB4 (kept_cell hX HC.out))
          have HL4 := Lib.hid (HL.out.trans ((hX.mono HL.out.size).trans (hB4.mono (by have := HL.out.size; simp; omega))))
          have hz4 : wr.heap.size + 1 ≤ w4.heap.size := by have := hB4.size; simpa using this
          have HYF := Lib.hid hyf
          clear hX HW hn4 hc4 hB4 B8 B6 HC HL hyf
          rw [← HS2.out]
          go_upto_region 9 with (fail)
          have D8 := Lib.hid (B84.out.on (below_drew' (Below.refl _ w4)))
          have D6 := Lib.hid (B64.out.on (below_drew' (Below.refl _ w4)))
          have d4 := cell_drew n4
          have hwy : IntKind.i64.wrap ((y : Nat) : Int) = ((y : Nat) : Int) := IntWalk.i64_in _ (by omega)
          obtain ⟨d0, d1, d2, -, -⟩ := D8.out
          by_cases hok : (0 ≤ ((y : Nat) : Int) ∧ ((y : Nat) : Int) < nb) ∧ (zs.length : Int) < sp
          · have hmv := Lib.hid (fun (w' : World) (h : Ints w'.heap.size w' (.slice sa zs.length sc) zs) => move_ok nb sp (.slice sa zs.length sc) zs (y : Nat) w' h hok.1 hok.2 (by omega))
            have HOK := Lib.hid hok
            clear hok
            go_region_with ((go_at_call 9; go_must (refine (hmv.out _ D8.out.ints).mono ?_; rintro e w6 ⟨⟨v6, rfl, hi6, hv6⟩, hB6⟩; have B86 := Lib.hid (D8.out.on hB6); have B66 := Lib.hid (D6.out.on hB6); have HC6 := Lib.hid (kept_cell hB6 (cell_drew HC4.out)); have HI6 := Lib.hid hi6; have HV6 := Lib.hid hv6; have HL6 := Lib.hid ((below_drew' HL4.out).trans (hB6.mono HL4.out.size)); have hz6 := hB6.size; clear hi6 hv6 hB6; obtain ⟨k0, k1, k2, kg, -⟩ := B86.out; have kg0 := kg 0; have kg1 := kg 1; have kg2 := kg 2; obtain ⟨va, vc, hvv⟩ := HI6.out.len; rw [List.length_append, List.length_singleton] at hvv; subst hvv)))
            all_goals
              go_wp2_with fail
              obtain ⟨Z, hZ⟩ : ∃ Z, Z = ((w6.setCell ⟨w1.heap.size, 0, none⟩ (.int .i64 nb)).setCell ⟨w1.heap.size, 1, none⟩ (.int .i64 sp)).setCell ⟨w1.heap.size, 2, none⟩ (.slice va (zs.length + 1) vc) := ⟨_, rfl⟩
              have hz10 := HL3.out.size
              have hz11 := HZ2.out
              simp at hz6
              have hvne : (Value.slice va (zs.length + 1) vc).ownBlock ≠ some w1.heap.size := fun e => by have := HV6.out _ e; simp at this; omega
              obtain ⟨P1, P2⟩ := B86.out.put (nb' := nb) (sp' := sp) HI6.out hvne hZ
              have P3 := B66.out.beside (by omega) (by simp [Value.ownBlock]) hZ
              have P4 := B86.out.num HC6.out ⟨_, _, _, rfl⟩ hZ
              have hZz : Z.heap.size = w6.heap.size := by rw [hZ]; simp
              rw [← hZ]
              exact ⟨⟨true, R, nb, sp, _, zs ++ [((y : Nat) : Int)], zs ++ [((y : Nat) : Int)], 0, rfl, rfl, rfl, by omega, Lib.hid (fun _ => ⟨rfl, rfl, rfl, by rw [HR0.out, HS2.out, tailL_app]; simp [tailL, wtext], fun z hz => (List.mem_append.1 hz).elim (HZS.out z) (fun h1 => by rw [List.mem_singleton.1 h1]; exact HOK.out.1), by have := HOK.out.2; rw [List.length_append, List.length_singleton]; omega⟩), Lib.hid P1, Lib.hid (fun k e => by have := HV6.out _ e; simp at this; omega), Lib.hid P3, Lib.hid P4, Lib.hid (P2 _ _ HL6.out (by omega)), by omega⟩, hr1⟩
          · have hmv := Lib.hid (fun (w' : World) (h : Ints w'.heap.size w' (.slice sa zs.length sc) zs) => move_no nb sp (.slice sa zs.length sc) zs (y : Nat) w' h hzl hs1 hok)
            have HOK := Lib.hid hok
            clear hok
            go_region_with ((go_at_call 9; go_must (refine (hmv.out _ D8.out.ints).mono ?_; rintro e w6 ⟨⟨ev', hev, rfl⟩, hB6⟩; have B86 := Lib.hid (D8.out.on hB6); have B66 := Lib.hid (D6.out.on hB6); have HC6 := Lib.hid (kept_cell hB6 (cell_drew HC4.out)); have HL6 := Lib.hid ((below_drew' HL4.out).trans (hB6.mono HL4.out.size)); have hz6 := hB6.size; clear hB6; obtain ⟨k0, k1, k2, kg, -⟩ := B86.out; have kg0 := kg 0; have kg1 := kg 1; have kg2 := kg 2)))
            all_goals
              go_wp2_with fail
              obtain ⟨Z, hZ⟩ : ∃ Z, Z = ((w6.setCell ⟨w1.heap.size, 0, none⟩ (.int .i64 0)).setCell ⟨w1.heap.size, 1, none⟩ (.int .i64 0)).setCell ⟨w1.heap.size, 2, none⟩ (.slice none 0 0) := ⟨_, rfl⟩
              have hz10 := HL3.out.size
              have hz11 := HZ2.out
              simp at hz6
              obtain ⟨P1, P2⟩ := B86.out.put (nb' := 0) (sp' := 0) (Or.inl ⟨rfl, rfl⟩) (by simp [Value.ownBlock]) hZ
              have P3 := B66.out.beside (by omega) (by simp [Value.ownBlock]) hZ
              have P4 := B86.out.num HC6.out ⟨_, _, _, rfl⟩ hZ
              have hZz : Z.heap.size = w6.heap.size := by rw [hZ]; simp
              rw [← hZ]
              exact ⟨⟨false, R, 0, 0, _, zs, [], ev', rfl, rfl, by simp [hev], by omega, Lib.hid (fun h => by cases h), Lib.hid P1, Lib.hid (fun k e => by simp [Value.ownBlock] at e), Lib.hid P3, Lib.hid P4, Lib.hid (P2 _ _ HL6.out (by omega)), by omega⟩, hr1⟩
        · have hr1 : r.length < 2 := by omega
          have hrs : ¬ r.isEmpty = true := by simpa using hre
          clear hre
          go_wp2_with fail
          have hX : Below wr.heap.size wr (wr.alloc (.cells #[.int .i64 2] 3)) := by go_grown
          have HW := Lib.hid (intsW_new wr #[.int .i64 2] 3 (0, 0) [(2, 0)] rfl)
          refine (read_short (some ⟨wr.heap.size, 0, none⟩) 1 [(2, 0)] r _ HW.out (wide1 2 _ (by decide) (by decide)) (by simp) (by simp [sumW]; omega)).mono ?_
          rintro e w4 ⟨rfl, rfl⟩
          have C8 := Lib.hid (B8.out.on hX)
          have C6 := Lib.hid (B6.out.on hX)
          have CC := Lib.hid (kept_cell hX HC.out)
          have CL := Lib.hid (HL.out.trans (hX.mono HL.out.size))
          clear hX B8 B6 HC HL
          go_wp2_with fail
          exact ⟨⟨false, [], nb, sp, sv, zs, zs, ev, rfl, rfl, rfl, by simp, Lib.hid (fun h => by cases h), C8, HV, C6, CC, CL, by simp; omega⟩, by show (S []).size < (S r).size; rw [S_size, S_size]; simp; omega⟩

end Go.Proofs.Ytblleinahlaohaa
