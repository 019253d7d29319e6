/-
  The walks of a table's New, is, Left, Gen, Move.
-/
import Derived.Test.YtblleinahlaohaaBat
import Derived.StillTailTactics
import Derived.Deep.Cut
import Derived.Deep.DeepCutAuto
import Derived.Deep.RegionLawGrows
namespace Go.Proofs.Ytblleinahlaohaa
open Go.RowKit Go.Shelf
set_option linter.unusedVariables false

def intsV (l : List Int) : List Value := l.map fun x => .int .i64 x
theorem intsV_len (l : List Int) : (intsV l).length = l.length := by simp [intsV]
theorem intsV_snoc (l : List Int) (x : Int) : intsV (l ++ [x]) = intsV l ++ [.int .i64 x] := by simp [intsV]
theorem infoI : (Try.prog.info? 3).map (fun i => (i.zero, i.size, i.bytes)) = some (some (.int .i64 0), 1, 8) := by kernel_rfl
theorem Ints.of_own {w : World} {B n : Nat} {v : Value} {l : List Int} (h : w.ownsRow B 3 1 v n (intsV l)) : l.length = n ∧ Ints w.heap.size w v l := by
  have hn : l.length = n := by have := h.1; rw [intsV_len] at this; omega
  refine ⟨hn, ?_⟩
  subst hn
  rcases ownsRow_open h with ⟨rfl, h0, -⟩ | ⟨g, cap, cur, rfl, hB, hr, h3, h4, h5, h6⟩
  · exact Or.inl ⟨rfl, List.eq_nil_of_length_eq_zero h0⟩
  · refine Or.inr ⟨g, 0, cap, rfl, hr.lt, fun j hj => ?_⟩
    rw [Nat.zero_add, hr.cell, List.getElem?_eq_getElem hj]
    have : (cur.take (l.length * 1))[j]? = (intsV l)[j]? := by rw [h6]
    rw [List.getElem?_take, if_pos (by omega)] at this
    rw [this]
    simp [intsV, hj]
theorem Ints.len {n₀ : Nat} {w : World} {v : Value} {l : List Int} (h : Ints n₀ w v l) : ∃ ao c, v = .slice ao l.length c := by
  rcases h with ⟨rfl, rfl⟩ | ⟨b, off, cap, rfl, -⟩
  · exact ⟨none, 0, rfl⟩
  · exact ⟨_, _, rfl⟩
theorem Ints.kept {w w' : World} {v : Value} {l : List Int} (h : Ints w.heap.size w v l) (hb : Below w.heap.size w w') : Ints w'.heap.size w' v l := (h.below hb).mono hb.size
theorem cell_one_at (w : World) (g : Nat) (hg : w.heap.size = g) (x : Value) (t : TypeId) : ∀ j u, [x][j]? = some u → (w.alloc (.cells #[x] t)).cell? ((⟨g, 0, none⟩ : Addr).add j) = some u := by
  subst hg
  exact cell_one_new w x t

set_option maxHeartbeats 1000000 in
theorem cloneI (v : Value) (l : List Int) (w : World) (h : Ints w.heap.size w v l) (hl : l.length ≤ 1000000) :
    Calls Try.prog 22 #[v] w fun e w' => (∃ v', e = .returned v' ∧ w'.ownsRow w.heap.size 3 1 v' l.length (intsV l)) ∧ Below w.heap.size w w' := by
  have hnil := fun (w : World) a n c n' c' => Lib.run_eql_slice_nil (P := Try.prog) w 23 3 a n c n' c' Try.underlying23
  obtain ⟨i0, hi, hz0, hz1, hz2⟩ := info_parts infoI
  rcases h with ⟨rfl, rfl⟩ | ⟨b, off, cap, rfl, hb, hc⟩
  · go_enter Try.func22, Try.ntmps22
    go_wp2_with fail
    go_ret
    exact ⟨⟨_, rfl, World.ownsRow_nil _ _ _ _⟩, Below.refl _ _⟩
  · have hown := World.ownsRow_made (e := 3) (size := 1) (base := w.heap.size) w #[] 0 (Nat.le_refl _) (by unfold maxLen; omega) rfl
    have hnews : ∀ j u, (intsV l)[j]? = some u → (w.alloc (.cells #[] 3)).cell? ((⟨b, off, none⟩ : Addr).add j) = some u := by
      intro j u hu
      have hj := (List.getElem?_eq_some_iff.1 hu).1
      rw [intsV_len] at hj
      rw [Addr.add_lit]
      refine cell_past _ ((hc j hj).trans ?_)
      rw [← hu]
      simp [intsV, hj]
    have hcl := intsV_len l
    clear hc
    go_enter Try.func22, Try.ntmps22
    go_wp2_with (at_builtin; refine wpList_append_own_at _ rfl _ _ 23 rfl w.heap.size 3 i0 (.int .i64 0) 1 8 Try.underlying23 hi hz0 hz1 hz2 rfl (by decide) _ 0 [] rfl hown ⟨b, off, none⟩ l.length cap (intsV l) rfl (by rw [hcl]; omega) hnews (fun u hu => by simp [intsV] at hu; obtain ⟨x, -, rfl⟩ := hu; rfl) (by unfold maxLen; omega) (by omega) (by simp) ?_; intro v' w1 hown' hgrow hnil' hat)
    go_ret
    rw [Nat.zero_add, List.nil_append] at hown'
    exact ⟨⟨_, rfl, hown'⟩, below_grown_new hgrow fun k e => Nat.le_of_eq (Option.some.inj e)⟩

set_option maxHeartbeats 1000000 in
theorem new_ok (nb sp : Int) (w : World) (h1 : 1 ≤ nb) (h2 : nb ≤ 4096) (h3 : 0 ≤ sp) (h4 : sp ≤ 32) :
    Calls Try.prog 7 #[.int .i64 nb, .int .i64 sp] w fun e w' => e = .returned (.tuple #[.agg #[.int .i64 nb, .int .i64 sp, .slice none 0 0], .int .i64 0]) ∧ Below w.heap.size w w' := by
  have k1 : ¬ nb < 1 := by omega
  have k2 : ¬ (4096 : Int) < nb := by omega
  have k3 : ¬ sp < 0 := by omega
  have k4 : ¬ (32 : Int) < sp := by omega
  go_enter Try.func7, Try.ntmps7
  go_wp2_with fail
  exact bodyPost_ret (v := .tuple #[.agg #[.int .i64 nb, .int .i64 sp, .slice none 0 0], .int .i64 0]) (by simp [results, Try.results7, go_sem]) rfl ⟨rfl, by go_grown⟩

set_option maxHeartbeats 1000000 in
theorem is_any (nb sp : Int) (sv : Value) (hsv : ∃ a n c, sv = .slice a n c) (x : Int) (w : World) :
    Calls Try.prog 21 #[.agg #[.int .i64 nb, .int .i64 sp, sv], .int .i64 x] w fun e w' => e = .returned (.bool (decide (0 ≤ x ∧ x < nb))) ∧ Below w.heap.size w w' := by
  obtain ⟨a, n, c, rfl⟩ := hsv
  by_cases h0 : x < 0
  · rw [show decide (0 ≤ x ∧ x < nb) = false by simp; omega]
    go_enter Try.func21, Try.ntmps21
    go_wp2_with fail
    go_ret
    exact ⟨rfl, by go_grown⟩
  · by_cases h1 : x < nb
    · rw [show decide (0 ≤ x ∧ x < nb) = true by simp; omega]
      go_enter Try.func21, Try.ntmps21
      go_wp2_with fail
      go_ret
      exact ⟨rfl, by go_grown⟩
    · rw [show decide (0 ≤ x ∧ x < nb) = false by simp; omega]
      go_enter Try.func21, Try.ntmps21
      go_wp2_with fail
      go_ret
      exact ⟨rfl, by go_grown⟩

set_option maxHeartbeats 1000000 in
theorem left_any (nb sp : Int) (a : Option Addr) (n c : Nat) (w : World) (h1 : 0 ≤ sp) (h2 : sp ≤ 1000) (hn : n ≤ 1000) :
    Calls Try.prog 10 #[.agg #[.int .i64 nb, .int .i64 sp, .slice a n c]] w fun e w' => e = .returned (.int .i64 (sp - n)) ∧ Below w.heap.size w w' := by
  have hw : IntKind.i64.wrap (sp - n) = sp - n := IntWalk.i64_in _ (by omega)
  go_enter Try.func10, Try.ntmps10
  go_wp2_with fail
  go_ret
  exact ⟨rfl, by go_grown⟩

set_option maxHeartbeats 1000000 in
theorem gen_any (nb sp : Int) (a : Option Addr) (n c : Nat) (w : World) (hn : n ≤ 1000) :
    Calls Try.prog 20 #[.agg #[.int .i64 nb, .int .i64 sp, .slice a n c]] w fun e w' => e = .returned (.int .u64 (n : Nat)) ∧ Below w.heap.size w w' := by
  have hw : IntKind.u64.wrap (n : Int) = n := by rw [IntKind.wrap_u64]; omega
  go_enter Try.func20, Try.ntmps20
  go_wp2_with fail
  go_ret
  exact ⟨rfl, by go_grown⟩

theorem set3 {w : World} {b : Nat} {x0 x1 x2 : Value} (y0 y1 y2 : Value) (r0 : w.cell? ⟨b, 0, none⟩ = some x0) (r1 : w.cell? ⟨b, 1, none⟩ = some x1) (r2 : w.cell? ⟨b, 2, none⟩ = some x2) {Z : World} (hZ : Z = ((w.setCell ⟨b, 0, none⟩ y0).setCell ⟨b, 1, none⟩ y1).setCell ⟨b, 2, none⟩ y2) :
    Z.cell? ⟨b, 0, none⟩ = some y0 ∧ Z.cell? ⟨b, 1, none⟩ = some y1 ∧ Z.cell? ⟨b, 2, none⟩ = some y2 ∧ ∀ B w0, Below B w0 w → B ≤ b → Below B w0 Z := by
  have n01 : (⟨b, 0, none⟩ : Addr) ≠ ⟨b, 1, none⟩ := by intro e; injection e with e1 e2; exact absurd e2 (by decide)
  have n02 : (⟨b, 0, none⟩ : Addr) ≠ ⟨b, 2, none⟩ := by intro e; injection e with e1 e2; exact absurd e2 (by decide)
  have n12 : (⟨b, 1, none⟩ : Addr) ≠ ⟨b, 2, none⟩ := by intro e; injection e with e1 e2; exact absurd e2 (by decide)
  subst hZ
  refine ⟨?_, ?_, ?_, fun B w0 hb hB => ((hb.setCell (p := ⟨b, 0, none⟩) hB _).setCell (p := ⟨b, 1, none⟩) hB _).setCell (p := ⟨b, 2, none⟩) hB _⟩
  · rw [World.cell?_setCell_other _ _ _ _ n02.symm, World.cell?_setCell_other _ _ _ _ n01.symm]; exact World.cell?_setCell_same _ _ _ r0
  · rw [World.cell?_setCell_other _ _ _ _ n12.symm]; exact World.cell?_setCell_same _ _ _ ((World.cell?_setCell_other _ _ _ _ n01).trans r1)
  · exact World.cell?_setCell_same _ _ _ ((World.cell?_setCell_other _ _ _ _ n12).trans ((World.cell?_setCell_other _ _ _ _ n02).trans r2))
theorem Ints.setCell {n₀ : Nat} {w : World} {sv : Value} {zs : List Int} (h : Ints n₀ w sv zs) {b o : Nat} (hne : sv.ownBlock ≠ some b) (v : Value) : Ints n₀ (w.setCell ⟨b, o, none⟩ v) sv zs := by
  rcases h with h | ⟨g, off, cap, rfl, hb, hc⟩
  · exact Or.inl h
  · refine Or.inr ⟨g, off, cap, rfl, hb, fun j hj => ?_⟩
    rw [World.cell?_setCell_other _ _ _ _ (fun e => hne (by injection e with e1 e2; simp [Value.ownBlock, e1]))]
    exact hc j hj
/-- The two boxes of a Move. -/
structure MovAt (nb sp : Int) (sv : Value) (zs : List Int) (w0 w : World) : Prop where
  e0 : w.cell? ⟨w0.heap.size, 0, none⟩ = some (.int .i64 nb)
  e1 : w.cell? ⟨w0.heap.size, 1, none⟩ = some (.int .i64 sp)
  e2 : w.cell? ⟨w0.heap.size, 2, none⟩ = some sv
  r0 : w.cell? ⟨w0.heap.size + 1, 0, none⟩ = some (.int .i64 0)
  r1 : w.cell? ⟨w0.heap.size + 1, 1, none⟩ = some (.int .i64 0)
  r2 : w.cell? ⟨w0.heap.size + 1, 2, none⟩ = some (.slice none 0 0)
  f2 : w.frozen? ⟨w0.heap.size, 2, none⟩ = false
  g : ∀ o, w.frozen? ⟨w0.heap.size + 1, o, none⟩ = false
  ints : Ints w.heap.size w sv zs
  low : Below w0.heap.size w0 w
  sz : w0.heap.size + 2 ≤ w.heap.size
theorem MovAt.on {nb sp : Int} {sv : Value} {zs : List Int} {w0 w w' : World} (h : MovAt nb sp sv zs w0 w) (hb : Below w.heap.size w w') : MovAt nb sp sv zs w0 w' :=
  ⟨kept_cell hb h.e0, kept_cell hb h.e1, kept_cell hb h.e2, kept_cell hb h.r0, kept_cell hb h.r1, kept_cell hb h.r2, ((bcell hb).2 _ 2 (by have := h.sz; omega)).trans h.f2, fun o => ((bcell hb).2 _ o (by have := h.sz; omega)).trans (h.g o), h.ints.kept hb, h.low.trans (hb.mono h.low.size), Nat.le_trans h.sz hb.size⟩
theorem MovAt.start {nb sp : Int} {a : Option Addr} {n c : Nat} {zs : List Int} {w : World} (h : Ints w.heap.size w (.slice a n c) zs) : MovAt nb sp (.slice a n c) zs w ((w.alloc (.cells #[.int .i64 nb, .int .i64 sp, .slice a n c] 25)).alloc (.cells #[.int .i64 0, .int .i64 0, .slice none 0 0] 25)) := by
  have hb : Below w.heap.size w ((w.alloc (.cells #[.int .i64 nb, .int .i64 sp, .slice a n c] 25)).alloc (.cells #[.int .i64 0, .int .i64 0, .slice none 0 0] 25)) := by go_grown
  have q : ∀ o, ((w.alloc (.cells #[.int .i64 nb, .int .i64 sp, .slice a n c] 25)).alloc (.cells #[.int .i64 0, .int .i64 0, .slice none 0 0] 25)).cell? ⟨w.heap.size, o, none⟩ = (#[Value.int .i64 nb, .int .i64 sp, .slice a n c])[o]? := fun o => by
    rw [World.cell?_alloc_past _ _ _ (by simp), World.cell?_alloc_at _ _ _ _ rfl]
  have r : ∀ o, ((w.alloc (.cells #[.int .i64 nb, .int .i64 sp, .slice a n c] 25)).alloc (.cells #[.int .i64 0, .int .i64 0, .slice none 0 0] 25)).cell? ⟨w.heap.size + 1, o, none⟩ = (#[Value.int .i64 0, .int .i64 0, .slice none 0 0])[o]? := fun o => by
    rw [World.cell?_alloc_at _ _ _ _ (by simp)]
  exact ⟨q 0, q 1, q 2, r 0, r 1, r 2, by rw [World.frozen?_alloc_past _ _ _ (by simp), World.frozen?_alloc_at _ _ _ _ rfl], fun o => World.frozen?_alloc_at _ _ _ _ (by simp), h.kept hb, hb, by simp⟩

set_option maxRecDepth 100000 in
set_option maxHeartbeats 4000000 in
theorem move_full (nb sp : Int) (sv : Value) (zs : List Int) (x : Int) (w : World) (h : Ints w.heap.size w sv zs) (hx : 0 ≤ x ∧ x < nb) (hf : sp = zs.length) (hl : zs.length ≤ 900) :
    Calls Try.prog 9 #[.agg #[.int .i64 nb, .int .i64 sp, sv], .int .i64 x] w fun e w' => e = .returned (.tuple #[.agg #[.int .i64 0, .int .i64 0, .slice none 0 0], .int .i64 9]) ∧ Below w.heap.size w w' := by
  obtain ⟨a, c, rfl⟩ := h.len
  have his := fun w => is_any nb sp (.slice a zs.length c) ⟨_, _, _, rfl⟩ x w
  rw [show decide (0 ≤ x ∧ x < nb) = true by simp; omega] at his
  have hlf := fun w => left_any nb sp a zs.length c w (by omega) (by omega) (by omega)
  rw [show sp - (zs.length : Int) = 0 by omega] at hlf
  have HI := Lib.hid his
  have HL := Lib.hid hlf
  have HM := Lib.hid (MovAt.start (nb := nb) (sp := sp) h)
  clear h hf his hlf
  go_enter Try.func9, Try.ntmps9
  go_upto_region 1 with (fail)
  obtain ⟨W, hW⟩ : ∃ W, W = ((w.alloc (.cells #[.int .i64 nb, .int .i64 sp, .slice a zs.length c] 25)).alloc (.cells #[.int .i64 0, .int .i64 0, .slice none 0 0] 25)) := ⟨_, rfl⟩
  rw [← hW] at HM ⊢
  clear hW
  obtain ⟨e0, e1, e2, -⟩ := HM.out
  go_wp2_with fail
  refine (HI.out _).mono ?_
  rintro e w1 ⟨rfl, hB1⟩
  have HM1 := Lib.hid (HM.out.on hB1)
  clear HM hB1 e0 e1 e2
  obtain ⟨e0, e1, e2, -⟩ := HM1.out
  go_wp2_with fail
  refine (HL.out _).mono ?_
  rintro e w2 ⟨rfl, hB2⟩
  have HM2 := Lib.hid (HM1.out.on hB2)
  clear HM1 hB2 e0 e1 e2
  obtain ⟨e0, e1, e2, r0, r1, r2, f2, g, -, low, sz⟩ := HM2.out
  have g0 := g 0
  have g1 := g 1
  have g2 := g 2
  go_wp2_with fail
  obtain ⟨Z, hZ⟩ : ∃ Z, Z = (((w2.setCell ⟨w.heap.size + 1, 0, none⟩ (.int .i64 0)).setCell ⟨w.heap.size + 1, 1, none⟩ (.int .i64 0)).setCell ⟨w.heap.size + 1, 2, none⟩ (.slice none 0 0)) := ⟨_, rfl⟩
  obtain ⟨s0, s1, s2, s3⟩ := set3 _ _ _ r0 r1 r2 hZ
  rw [← hZ]
  clear hZ
  exact bodyPost_ret (v := .tuple #[.agg #[.int .i64 0, .int .i64 0, .slice none 0 0], .int .i64 9]) (by simp [results, Try.results9, go_sem, s0, s1, s2]) rfl ⟨rfl, s3 _ _ low (by omega)⟩

set_option maxRecDepth 100000 in
set_option maxHeartbeats 4000000 in
theorem move_ok (nb sp : Int) (sv : Value) (zs : List Int) (x : Int) (w : World) (h : Ints w.heap.size w sv zs) (hx : 0 ≤ x ∧ x < nb) (hf : (zs.length : Int) < sp) (hsp : sp ≤ 900) :
    Calls Try.prog 9 #[.agg #[.int .i64 nb, .int .i64 sp, sv], .int .i64 x] w fun e w' => (∃ v', e = .returned (.tuple #[.agg #[.int .i64 nb, .int .i64 sp, v'], .int .i64 0]) ∧ Ints w'.heap.size w' v' (zs ++ [x]) ∧ ∀ k, v'.ownBlock = some k → w.heap.size ≤ k) ∧ Below w.heap.size w w' := by
  obtain ⟨i0, hi, hz0, hz1, hz2⟩ := info_parts infoI
  obtain ⟨a, c, rfl⟩ := h.len
  have his := fun w => is_any nb sp (.slice a zs.length c) ⟨_, _, _, rfl⟩ x w
  rw [show decide (0 ≤ x ∧ x < nb) = true by simp; omega] at his
  have hlf := fun w => left_any nb sp a zs.length c w (by omega) (by omega) (by omega)
  obtain ⟨lf, hlfe⟩ : ∃ lf, lf = sp - (zs.length : Int) := ⟨_, rfl⟩
  rw [← hlfe] at hlf
  have hl0 : ¬ lf = 0 := by omega
  have hzl : zs.length ≤ 900 := by omega
  have HI := Lib.hid his
  have HL := Lib.hid hlf
  have HM := Lib.hid (MovAt.start (nb := nb) (sp := sp) h)
  clear h hf his hlf hlfe
  go_enter Try.func9, Try.ntmps9
  go_upto_region 1 with (fail)
  obtain ⟨W, hW⟩ : ∃ W, W = ((w.alloc (.cells #[.int .i64 nb, .int .i64 sp, .slice a zs.length c] 25)).alloc (.cells #[.int .i64 0, .int .i64 0, .slice none 0 0] 25)) := ⟨_, rfl⟩
  rw [← hW] at HM ⊢
  clear hW
  obtain ⟨e0, e1, e2, -⟩ := HM.out
  go_wp2_with fail
  refine (HI.out _).mono ?_
  rintro e w1 ⟨rfl, hB1⟩
  have HM1 := Lib.hid (HM.out.on hB1)
  clear HM hB1 e0 e1 e2
  obtain ⟨e0, e1, e2, -⟩ := HM1.out
  go_wp2_with fail
  refine (HL.out _).mono ?_
  rintro e w2 ⟨rfl, hB2⟩
  have HM2 := Lib.hid (HM1.out.on hB2)
  clear HM1 hB2 e0 e1 e2
  obtain ⟨e0, e1, e2, -⟩ := HM2.out
  go_wp2_with fail
  refine (cloneI (.slice a zs.length c) zs w2 HM2.out.ints (by omega)).mono ?_
  rintro e w3 ⟨⟨v, rfl, hown⟩, hB3⟩
  have HM3 := Lib.hid (HM2.out.on hB3)
  have HO := Lib.hid hown
  have hz23 := hB3.size
  have hz2w := HM2.out.sz
  clear HM2 hB3 e0 e1 e2 hown
  obtain ⟨e0, e1, e2, -, -, -, f2, -, -, low3, sz3⟩ := HM3.out
  have e2' := cell_past (.cells #[.int .i64 x] 3) e2
  go_upto_region 6 with (at_builtin; go_must (refine wpList_append_own_at _ rfl (.tmp 19) (.tmp 21) 23 rfl w2.heap.size 3 i0 (.int .i64 0) 1 8 Try.underlying23 hi hz0 hz1 hz2 rfl (by decide) _ zs.length _ rfl (HO.out.alloc _) ⟨w3.heap.size, 0, none⟩ 1 1 [.int .i64 x] rfl rfl (cell_one_at _ _ rfl _ _) (fun u hu => by rw [List.mem_singleton.1 hu]; rfl) (by unfold maxLen; omega) (by omega) (by rw [World.size_alloc]; omega) ?_; intro vz wz hownwz hgrowwz hzz hbz; obtain ⟨gz, cz, ez⟩ := own_form hownwz; subst ez; have hX : Below w3.heap.size w3 (w3.alloc (.cells #[.int .i64 x] 3)) := (by go_grown); have hM := HM3.out.on hX; have hfar : ∀ k, k < w2.heap.size → some k ≠ v.ownBlock := (fun k hk e => by have := (HO.out.lt k e.symm).1; omega); have zc := hgrowwz.cell hM.e2 (hfar w.heap.size (by omega)); have zf : wz.frozen? ⟨w.heap.size, 2, none⟩ = false := (World.frozen?_of_block (hgrowwz.block w.heap.size (by rw [World.size_alloc]; omega) (hfar w.heap.size (by omega)))).trans hM.f2; have hne1 : some (w.heap.size + 1) ≠ v.ownBlock := (fun e => by have := (HO.out.lt _ e.symm).1; omega); have ze0 := hgrowwz.cell hM.e0 (hfar w.heap.size (by omega)); have ze1 := hgrowwz.cell hM.e1 (hfar w.heap.size (by omega)); have zr0 := hgrowwz.cell hM.r0 hne1; have zr1 := hgrowwz.cell hM.r1 hne1; have zr2 := hgrowwz.cell hM.r2 hne1; have zg : ∀ o, wz.frozen? ⟨w.heap.size + 1, o, none⟩ = false := (fun o => (World.frozen?_of_block (hgrowwz.block (w.heap.size + 1) (by rw [World.size_alloc]; omega) hne1)).trans (hM.g o)); have HLW := Lib.hid (below_grown hM.low hgrowwz (fun k e => by have := (HO.out.lt k e).1; omega) (by rw [World.size_alloc]; omega)); have hzz' := hgrowwz.size))
  obtain ⟨Z, hZ⟩ : ∃ Z, Z = wz.setCell ⟨w.heap.size, 2, none⟩ (.slice gz (zs.length + 1) cz) := ⟨_, rfl⟩
  rw [← hZ]
  have hoz : (Value.slice gz (zs.length + 1) cz).ownBlock ≠ some w.heap.size := fun e => by have := (hownwz.lt _ e).1; omega
  have n20 : (⟨w.heap.size, 2, none⟩ : Addr) ≠ ⟨w.heap.size, 0, none⟩ := by intro e; injection e with e1 e2; exact absurd e2 (by decide)
  have n21 : (⟨w.heap.size, 2, none⟩ : Addr) ≠ ⟨w.heap.size, 1, none⟩ := by intro e; injection e with e1 e2; exact absurd e2 (by decide)
  have nfar : ∀ o, (⟨w.heap.size, 2, none⟩ : Addr) ≠ ⟨w.heap.size + 1, o, none⟩ := fun o e => by injection e with e1 e2; omega
  have y0 : Z.cell? ⟨w.heap.size, 0, none⟩ = some (.int .i64 nb) := by rw [hZ, World.cell?_setCell_other _ _ _ _ n20]; exact ze0
  have y1 : Z.cell? ⟨w.heap.size, 1, none⟩ = some (.int .i64 sp) := by rw [hZ, World.cell?_setCell_other _ _ _ _ n21]; exact ze1
  have y2 : Z.cell? ⟨w.heap.size, 2, none⟩ = some (.slice gz (zs.length + 1) cz) := by rw [hZ]; exact World.cell?_setCell_same _ _ _ zc
  have k0 : Z.cell? ⟨w.heap.size + 1, 0, none⟩ = some (.int .i64 0) := by rw [hZ, World.cell?_setCell_other _ _ _ _ (nfar 0)]; exact zr0
  have k1 : Z.cell? ⟨w.heap.size + 1, 1, none⟩ = some (.int .i64 0) := by rw [hZ, World.cell?_setCell_other _ _ _ _ (nfar 1)]; exact zr1
  have k2 : Z.cell? ⟨w.heap.size + 1, 2, none⟩ = some (.slice none 0 0) := by rw [hZ, World.cell?_setCell_other _ _ _ _ (nfar 2)]; exact zr2
  have g0 : Z.frozen? ⟨w.heap.size + 1, 0, none⟩ = false := by rw [hZ, World.frozen?_setCell]; exact zg 0
  have g1 : Z.frozen? ⟨w.heap.size + 1, 1, none⟩ = false := by rw [hZ, World.frozen?_setCell]; exact zg 1
  have g2 : Z.frozen? ⟨w.heap.size + 1, 2, none⟩ = false := by rw [hZ, World.frozen?_setCell]; exact zg 2
  have HOZ := Lib.hid (show Z.ownsRow w2.heap.size 3 1 (.slice gz (zs.length + 1) cz) (zs.length + 1) (intsV (zs ++ [x])) from by rw [hZ, intsV_snoc]; exact ownsRow_setCell_other (a := ⟨w.heap.size, 2, none⟩) hownwz hoz _)
  have HLZ := Lib.hid (show Below w.heap.size w Z from by rw [hZ]; exact HLW.out.setCell (p := ⟨w.heap.size, 2, none⟩) (Nat.le_refl _) _)
  clear hZ zc zf ze0 ze1 zr0 zr1 zr2 zg hownwz hgrowwz HLW e0 e1 e2 e2' f2
  go_wp2_with fail
  obtain ⟨Y, hY⟩ : ∃ Y, Y = (((Z.setCell ⟨w.heap.size + 1, 0, none⟩ (.int .i64 nb)).setCell ⟨w.heap.size + 1, 1, none⟩ (.int .i64 sp)).setCell ⟨w.heap.size + 1, 2, none⟩ (.slice gz (zs.length + 1) cz)) := ⟨_, rfl⟩
  obtain ⟨s0, s1, s2, s3⟩ := set3 _ _ _ k0 k1 k2 hY
  have HOY := Lib.hid (show Y.ownsRow w2.heap.size 3 1 (.slice gz (zs.length + 1) cz) (zs.length + 1) (intsV (zs ++ [x])) from by
    have hq : (Value.slice gz (zs.length + 1) cz).ownBlock ≠ some (w.heap.size + 1) := fun e => by have := (HOZ.out.lt _ e).1; omega
    rw [hY]; exact ownsRow_setCell_other (a := ⟨w.heap.size + 1, 2, none⟩) (ownsRow_setCell_other (a := ⟨w.heap.size + 1, 1, none⟩) (ownsRow_setCell_other (a := ⟨w.heap.size + 1, 0, none⟩) HOZ.out hq _) hq _) hq _)
  rw [← hY]
  clear hY
  exact bodyPost_ret (v := .tuple #[.agg #[.int .i64 nb, .int .i64 sp, .slice gz (zs.length + 1) cz], .int .i64 0]) (by simp [results, Try.results9, go_sem, s0, s1, s2]) rfl ⟨⟨_, rfl, (Ints.of_own HOY.out).2, fun k e => by have := (HOY.out.lt k e).1; omega⟩, s3 _ _ HLZ.out (by omega)⟩

end Go.Proofs.Ytblleinahlaohaa
