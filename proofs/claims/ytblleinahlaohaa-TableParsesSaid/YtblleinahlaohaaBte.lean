/-
  The walk of a table's Parse, at the bytes of a table.
-/
import Derived.Test.YtblleinahlaohaaBtd
import Derived.Deep.RegionWith
namespace Go.Proofs.Ytblleinahlaohaa
open Go.RowKit Go.Shelf
set_option linter.unusedVariables false
attribute [local go_sem ↓] Go.wp_at_zero Go.wp_at_succ

def strOf : Value → Nat
  | .string s => s.size
  | _ => 0
/-- A table in its box. -/
structure BoxT (w : World) (b : Nat) (nb sp : Int) (sv : Value) (zs : List Int) : Prop where
  e0 : w.cell? ⟨b, 0, none⟩ = some (.int .i64 nb)
  e1 : w.cell? ⟨b, 1, none⟩ = some (.int .i64 sp)
  e2 : w.cell? ⟨b, 2, none⟩ = some sv
  g : ∀ o, w.frozen? ⟨b, o, none⟩ = false
  ints : Ints w.heap.size w sv zs
theorem BoxT.lt {w : World} {b : Nat} {nb sp : Int} {sv : Value} {zs : List Int} (h : BoxT w b nb sp sv zs) : b < w.heap.size := World.block_lt_of_cell? w _ h.e0
theorem BoxT.on {w w' : World} {b : Nat} {nb sp : Int} {sv : Value} {zs : List Int} (h : BoxT w b nb sp sv zs) (hb : Below w.heap.size w w') : BoxT w' b nb sp sv zs :=
  ⟨kept_cell hb h.e0, kept_cell hb h.e1, kept_cell hb h.e2, fun o => ((bcell hb).2 _ o h.lt).trans (h.g o), h.ints.kept hb⟩
theorem BoxT.new {w : World} {nb sp : Int} {sv : Value} {zs : List Int} {b : Nat} (hb : w.heap.size = b) (h : Ints w.heap.size w sv zs) (t : TypeId) : BoxT (w.alloc (.cells #[.int .i64 nb, .int .i64 sp, sv] t)) b nb sp sv zs := by
  subst hb
  refine ⟨?_, ?_, ?_, fun o => World.frozen?_alloc_at _ _ _ _ rfl, h.kept ((Below.refl _ w).alloc (Nat.le_refl _) _)⟩ <;> (rw [World.cell?_alloc_at _ _ _ _ rfl]; rfl)
/-- Another one is stored there. -/
theorem BoxT.put {w : World} {b : Nat} {nb sp nb' sp' : Int} {sv sv' : Value} {zs zs' : List Int} (h : BoxT w b nb sp sv zs) (hi : Ints w.heap.size w sv' zs') (hne : sv'.ownBlock ≠ some b) {Z : World} (hZ : Z = ((w.setCell ⟨b, 0, none⟩ (.int .i64 nb')).setCell ⟨b, 1, none⟩ (.int .i64 sp')).setCell ⟨b, 2, none⟩ sv') :
    BoxT Z b nb' sp' sv' zs' ∧ ∀ B w0, Below B w0 w → B ≤ b → Below B w0 Z := by
  obtain ⟨s0, s1, s2, s3⟩ := set3 _ _ _ h.e0 h.e1 h.e2 hZ
  refine ⟨⟨s0, s1, s2, fun o => ?_, ?_⟩, s3⟩
  · rw [hZ, World.frozen?_setCell, World.frozen?_setCell, World.frozen?_setCell]; exact h.g o
  · have hz : Z.heap.size = w.heap.size := by rw [hZ]; simp
    rw [hz, hZ]
    exact ((hi.setCell hne _).setCell hne _).setCell hne _
/-- .. beside it. -/
theorem BoxT.beside {w : World} {b c : Nat} {nb sp : Int} {sv : Value} {zs : List Int} {x y z : Value} (h : BoxT w b nb sp sv zs) (hbc : b ≠ c) (hne : sv.ownBlock ≠ some c) {Z : World} (hZ : Z = ((w.setCell ⟨c, 0, none⟩ x).setCell ⟨c, 1, none⟩ y).setCell ⟨c, 2, none⟩ z) : BoxT Z b nb sp sv zs := by
  have n : ∀ o o', (⟨c, o, none⟩ : Addr) ≠ ⟨b, o', none⟩ := fun o o' e => hbc (by injection e with e1 e2; exact e1.symm)
  have hz : Z.heap.size = w.heap.size := by rw [hZ]; simp
  refine ⟨?_, ?_, ?_, fun o => ?_, ?_⟩
  · rw [hZ, World.cell?_setCell_other _ _ _ _ (n _ _), World.cell?_setCell_other _ _ _ _ (n _ _), World.cell?_setCell_other _ _ _ _ (n _ _)]; exact h.e0
  · rw [hZ, World.cell?_setCell_other _ _ _ _ (n _ _), World.cell?_setCell_other _ _ _ _ (n _ _), World.cell?_setCell_other _ _ _ _ (n _ _)]; exact h.e1
  · rw [hZ, World.cell?_setCell_other _ _ _ _ (n _ _), World.cell?_setCell_other _ _ _ _ (n _ _), World.cell?_setCell_other _ _ _ _ (n _ _)]; exact h.e2
  · rw [hZ, World.frozen?_setCell, World.frozen?_setCell, World.frozen?_setCell]; exact h.g o
  · rw [hz, hZ]; exact ((h.ints.setCell hne _).setCell hne _).setCell hne _

/-- A number of another kind lies beside the box. -/
theorem BoxT.num {w : World} {b gb go : Nat} {nb sp nb' sp' : Int} {sv sv' : Value} {zs : List Int} {n : Int} (h : BoxT w b nb sp sv zs) (hc : w.cell? ⟨gb, go, none⟩ = some (.int .u64 n)) (hs : ∃ a n c, sv = .slice a n c) {Z : World} (hZ : Z = ((w.setCell ⟨b, 0, none⟩ (.int .i64 nb')).setCell ⟨b, 1, none⟩ (.int .i64 sp')).setCell ⟨b, 2, none⟩ sv') : Z.cell? ⟨gb, go, none⟩ = some (.int .u64 n) := by
  obtain ⟨a, m, c, rfl⟩ := hs
  have n0 : (⟨b, 0, none⟩ : Addr) ≠ ⟨gb, go, none⟩ := fun e => by rw [← e, h.e0] at hc; simp at hc
  have n1 : (⟨b, 1, none⟩ : Addr) ≠ ⟨gb, go, none⟩ := fun e => by rw [← e, h.e1] at hc; simp at hc
  have n2 : (⟨b, 2, none⟩ : Addr) ≠ ⟨gb, go, none⟩ := fun e => by rw [← e, h.e2] at hc; simp at hc
  rw [hZ, World.cell?_setCell_other _ _ _ _ n2, World.cell?_setCell_other _ _ _ _ n1, World.cell?_setCell_other _ _ _ _ n0]
  exact hc
set_option maxRecDepth 100000 in
set_option maxHeartbeats 8000000 in
theorem parse_text (nb sp : Int) (zs : List Int) (w : World) (hnb : 1 ≤ nb ∧ nb ≤ 4096) (hsp : 0 ≤ sp ∧ sp ≤ 32) (hz : ∀ z ∈ zs, 0 ≤ z ∧ z < nb) (hl : (zs.length : Int) ≤ sp) :
    Calls Try.prog 11 #[.string (S (textL zs)), .int .i64 nb, .int .i64 sp] w fun e w' => (∃ v', e = .returned (.tuple #[.agg #[.int .i64 nb, .int .i64 sp, v'], .int .i64 0]) ∧ Ints w'.heap.size w' v' zs ∧ ∀ k, v'.ownBlock = some k → w.heap.size ≤ k) ∧ Below w.heap.size w w' := by
  have HZ := Lib.hid hz
  have hzl : zs.length ≤ 32 := by omega
  clear hz
  go_enter Try.func11, Try.ntmps11
  go_upto_region 1 with (fail)
  have B6 := Lib.hid (BoxT.new (w := w) (nb := 0) (sp := 0) (sv := .slice none 0 0) (zs := []) rfl (Or.inl ⟨rfl, rfl⟩) 25)
  obtain ⟨W, hW⟩ : ∃ W, W = w.alloc (.cells #[.int .i64 0, .int .i64 0, .slice none 0 0] 25) := ⟨_, rfl⟩
  rw [← hW] at B6 ⊢
  have hX : Below w.heap.size w W := by rw [hW]; go_grown
  have hWz : W.heap.size = w.heap.size + 1 := by rw [hW]; simp
  clear hW
  go_wp2_with fail
  refine (new_ok nb sp W hnb.1 hnb.2 hsp.1 hsp.2).mono ?_
  rintro e w1 ⟨rfl, hB1⟩
  have B61 := Lib.hid (B6.out.on hB1)
  have HL1 := Lib.hid (hX.trans (hB1.mono (by omega)))
  have hz1 := hB1.size
  clear B6 hB1 hX
  go_upto_region 2 with (fail)
  have hX2 : Below w1.heap.size w1 (w1.alloc (.cells #[.int .i64 nb, .int .i64 sp, .slice none 0 0] 25)) := by go_grown
  have B8 := Lib.hid (BoxT.new (w := w1) (nb := nb) (sp := sp) (sv := .slice none 0 0) (zs := []) rfl (Or.inl ⟨rfl, rfl⟩) 25)
  have B62 := Lib.hid (B61.out.on hX2)
  have HL2 := Lib.hid (HL1.out.trans (hX2.mono (by omega)))
  obtain ⟨w2, hw2⟩ : ∃ w2, w2 = w1.alloc (.cells #[.int .i64 nb, .int .i64 sp, .slice none 0 0] 25) := ⟨_, rfl⟩
  rw [← hw2] at B8 B62 HL2 ⊢
  have HZ2 := Lib.hid (show w2.heap.size = w1.heap.size + 1 by rw [hw2]; simp)
  clear hw2 hX2 B61 HL1
  go_wp2_with fail
  have hX3 : Below w2.heap.size w2 (w2.alloc (.cells #[.int .i64 8] 3)) := by go_grown
  have HW := Lib.hid (intsW_new w2 #[.int .i64 8] 3 (0, 0) [(8, zs.length)] rfl)
  have hts : textL zs = wtext [(8, zs.length)] ++ tailL zs := by unfold textL; simp [wtext]
  rw [hts]
  have htl : (tailL zs).length ≤ 64 := by rw [tailL_len]; omega
  refine (read_ok (some ⟨w2.heap.size, 0, none⟩) 1 [(8, zs.length)] (tailL zs) _ HW.out (wide1 8 _ (by decide) (by decide)) (fun p hp => by rw [List.mem_singleton.1 hp]; show zs.length < 256 ^ 8; omega) (by simp) (by omega)).mono ?_
  rintro e w3 ⟨⟨ga, gc, rfl, hgn⟩, hB3⟩
  have B83 := Lib.hid ((B8.out.on hX3).on hB3)
  have B63 := Lib.hid ((B62.out.on hX3).on hB3)
  have HL3 := Lib.hid (HL2.out.trans ((hX3.mono HL2.out.size).trans (hB3.mono (by have := HL2.out.size; simp; omega))))
  have HG := Lib.hid hgn
  have hz3 : w2.heap.size + 1 ≤ w3.heap.size := by have := hB3.size; simpa using this
  clear hX3 HW hB3 B8 B62 HL2 hgn
  go_wp2_with fail
  have hg0 : ∃ gb go, ga = some ⟨gb, go, none⟩ ∧ w3.cell? ⟨gb, go, none⟩ = some (.int .u64 (zs.length : Nat)) := by
    obtain ⟨gb, go, e, hb, hc⟩ := HG.out.at (by simp)
    exact ⟨gb, go, e, by have := hc 0 (by simp) 0 _ rfl; simpa using this⟩
  obtain ⟨gb, go, rfl, hgc⟩ := hg0
  have HGC := Lib.hid hgc
  clear hgc HG hts htl
  go_loopw [0, 9, 11] (fun s e ok wr => ∃ (j : Nat) (sv : Value), s = .string (S (tailL (zs.drop j))) ∧ e = .int .i64 0 ∧ ok = .bool true ∧ j ≤ zs.length ∧ Hid (BoxT wr w1.heap.size nb sp sv (zs.take j)) ∧ Hid (∀ k, sv.ownBlock = some k → w.heap.size < k) ∧ Hid (BoxT wr w.heap.size 0 0 (.slice none 0 0) []) ∧ Hid (wr.cell? ⟨gb, go, none⟩ = some (.int .u64 (zs.length : Nat))) ∧ Hid (Below w.heap.size w wr) ∧ w3.heap.size ≤ wr.heap.size) (fun s _ _ _ => strOf s)
  case atStart => exact ⟨0, _, by simp, rfl, rfl, Nat.zero_le _, Lib.hid (by simpa using B83.out), Lib.hid (fun k e => by simp [Value.ownBlock] at e), B63, HGC, HL3, Nat.le_refl _⟩
  case round =>
    obtain ⟨j, sv, rfl, rfl, rfl, hj, B8, HV, B6, HC, HL, hzr⟩ := hrel
    by_cases hjl : j < zs.length
    · have hzz := HZ.out _ (List.getElem_mem hjl)
      have HT := Lib.hid (tailL_cons zs j hjl)
      have HK := Lib.hid (show zs.take (j + 1) = zs.take j ++ [zs[j]] from List.take_succ_eq_append_getElem hjl)
      have hrl : (tailL (zs.drop (j + 1))).length ≤ 64 := by rw [tailL_len, List.length_drop]; omega
      rw [HT.out]
      generalize zs[j] = z at *
      obtain ⟨y, rfl⟩ := Int.eq_ofNat_of_zero_le hzz.1
      simp only [Int.toNat_natCast] at HT ⊢
      have hy : y < 4096 := by omega
      generalize hR : tailL (zs.drop (j + 1)) = R at *
      have HR := Lib.hid hR
      clear hR
      have hjt : (zs.take j).length = j := by rw [List.length_take]; omega
      have HJT := Lib.hid hjt
      clear hjt
      obtain ⟨sa, sc, hsv⟩ := B8.out.ints.len
      rw [HJT.out] at hsv
      subst hsv
      go_wp2_with fail
      have hX : Below wr.heap.size wr (wr.alloc (.cells #[.int .i64 2] 3)) := by go_grown
      have HW := Lib.hid (intsW_new wr #[.int .i64 2] 3 (0, 0) [(2, y)] rfl)
      rw [show le y 2 ++ R = wtext [(2, y)] ++ R by simp [wtext]]
      refine (read_ok (some ⟨wr.heap.size, 0, none⟩) 1 [(2, y)] R _ HW.out (wide1 2 _ (by decide) (by decide)) (fun p hp => by rw [List.mem_singleton.1 hp]; show y < 256 ^ 2; omega) (by simp) (by omega)).mono ?_
      rintro e w4 ⟨⟨a4, c4, rfl, hn4⟩, hB4⟩
      obtain ⟨b4, o4, rfl, -, hc4⟩ := hn4.at (by simp)
      have n4 : w4.cell? ⟨b4, o4, none⟩ = some (.int .u64 (y : Nat)) := by have := hc4 0 (by simp) 0 _ rfl; simpa using this
      have B84 := Lib.hid ((B8.out.on hX).on hB4)
      have B64 := Lib.hid ((B6.out.on hX).on hB4)
      have HC4 := Lib.hid (kept_cell hB4 (kept_cell hX HC.out))
      have HL4 := Lib.hid (HL.out.trans ((hX.mono HL.out.size).trans (hB4.mono (by have := HL.out.size; simp; omega))))
      have hz4 : wr.heap.size + 1 ≤ w4.heap.size := by have := hB4.size; simpa using this
      clear hX HW hn4 hc4 hB4 B8 B6 HC HL
      go_upto_region 9 with (fail)
      have D8 := Lib.hid (B84.out.on (below_drew' (Below.refl _ w4)))
      have D6 := Lib.hid (B64.out.on (below_drew' (Below.refl _ w4)))
      have d4 := cell_drew n4
      have hwy : IntKind.i64.wrap ((y : Nat) : Int) = ((y : Nat) : Int) := IntWalk.i64_in _ (by omega)
      obtain ⟨d0, d1, d2, -, -⟩ := D8.out
      have hmv := Lib.hid (fun (w' : World) (h : Ints w'.heap.size w' (.slice sa j sc) (zs.take j)) => move_ok nb sp (.slice sa j sc) (zs.take j) (y : Nat) w' h hzz (by rw [HJT.out]; omega) (by omega))
      go_region_with ((go_at_call 9; go_must (refine (hmv.out _ D8.out.ints).mono ?_; rintro e w6 ⟨⟨v6, rfl, hi6, hv6⟩, hB6⟩; have B86 := Lib.hid (D8.out.on hB6); have B66 := Lib.hid (D6.out.on hB6); have HC6 := Lib.hid (kept_cell hB6 (cell_drew HC4.out)); have HI6 := Lib.hid hi6; have HV6 := Lib.hid hv6; have HL6 := Lib.hid ((below_drew' HL4.out).trans (hB6.mono HL4.out.size)); have hz6 := hB6.size; clear hi6 hv6 hB6; obtain ⟨k0, k1, k2, kg, -⟩ := B86.out; have kg0 := kg 0; have kg1 := kg 1; have kg2 := kg 2; obtain ⟨va, vc, hvv⟩ := HI6.out.len; rw [List.length_append, HJT.out, List.length_singleton] at hvv; subst hvv)))
      all_goals
        go_wp2_with fail
        obtain ⟨Z, hZ⟩ : ∃ Z, Z = ((w6.setCell ⟨w1.heap.size, 0, none⟩ (.int .i64 nb)).setCell ⟨w1.heap.size, 1, none⟩ (.int .i64 sp)).setCell ⟨w1.heap.size, 2, none⟩ (.slice va (j + 1) vc) := ⟨_, rfl⟩
        have hz10 := HL3.out.size
        have hz11 := HZ2.out
        have hvne : (Value.slice va (j + 1) vc).ownBlock ≠ some w1.heap.size := fun e => by have := HV6.out _ e; simp at this; omega
        obtain ⟨P1, P2⟩ := B86.out.put (nb' := nb) (sp' := sp) HI6.out hvne hZ
        have P3 := B66.out.beside (by omega) (by simp [Value.ownBlock]) hZ
        have P4 := B86.out.num HC6.out ⟨_, _, _, rfl⟩ hZ
        have hZz : Z.heap.size = w6.heap.size := by rw [hZ]; simp
        rw [← hZ]
        simp at hz6
        refine ⟨⟨j + 1, _, by rw [← HR.out], rfl, rfl, by omega, Lib.hid (by rw [HK.out]; exact P1), Lib.hid (fun k e => by have := HV6.out _ e; simp at this; omega), Lib.hid P3, Lib.hid P4, Lib.hid (P2 _ _ HL6.out (by omega)), by omega⟩, ?_⟩
        show (S R).size < (S (le y 2 ++ R)).size
        rw [S_size, S_size, List.length_append, le_length]; omega
    · obtain rfl : j = zs.length := by omega
      have HE := Lib.hid (show tailL (zs.drop zs.length) = [] by rw [List.drop_length]; rfl)
      rw [HE.out]
      rw [List.take_length] at B8
      obtain ⟨sa, sc, hsv⟩ := B8.out.ints.len
      subst hsv
      go_upto_region 11 with (fail)
      have D8 := Lib.hid (B8.out.on (below_drew' (Below.refl _ wr)))
      have D6 := Lib.hid (B6.out.on (below_drew' (Below.refl _ wr)))
      have d4 := cell_drew HC.out
      obtain ⟨d0, d1, d2, -, -⟩ := D8.out
      have hgn := Lib.hid (fun (w' : World) => gen_any nb sp sa zs.length sc w' (by omega))
      go_region_with ((go_at_call 20; go_must (refine (hgn.out _).mono ?_; rintro e w6 ⟨rfl, hB6⟩; have B86 := Lib.hid (D8.out.on hB6); have B66 := Lib.hid (D6.out.on hB6); have HC6 := (kept_cell hB6 d4); have HL6 := Lib.hid ((below_drew' HL.out).trans (hB6.mono HL.out.size)); have hz6 := hB6.size; clear hB6)))
      all_goals
        obtain ⟨k0, k1, k2, -, -⟩ := B86.out
        obtain ⟨r0, r1, r2, rg, -⟩ := B66.out
        have rg0 := rg 0
        have rg1 := rg 1
        have rg2 := rg 2
        go_wp2_with fail
        obtain ⟨Z, hZ⟩ : ∃ Z, Z = ((w6.setCell ⟨w.heap.size, 0, none⟩ (.int .i64 nb)).setCell ⟨w.heap.size, 1, none⟩ (.int .i64 sp)).setCell ⟨w.heap.size, 2, none⟩ (.slice sa zs.length sc) := ⟨_, rfl⟩
        have hvne : (Value.slice sa zs.length sc).ownBlock ≠ some w.heap.size := fun e => by have := HV.out _ e; omega
        obtain ⟨P1, P2⟩ := B66.out.put (nb' := nb) (sp' := sp) B86.out.ints hvne hZ
        rw [← hZ]
        obtain ⟨s0, s1, s2, -, si⟩ := P1
        exact bodyPost_ret (v := .tuple #[.agg #[.int .i64 nb, .int .i64 sp, .slice sa zs.length sc], .int .i64 0]) (by simp [results, Try.results11, go_sem, s0, s1, s2]) rfl ⟨⟨_, rfl, si, fun k e => Nat.le_of_lt (HV.out k e)⟩, P2 _ _ HL6.out (Nat.le_refl _)⟩

end Go.Proofs.Ytblleinahlaohaa
