/-
  The walks of env's pointers as bytes, of a child's text, and of a builder's WriteByte.
-/
import Derived.Test.YtafciefjlkdecaaGreatNsp
namespace Go.Proofs.YtafciefjlkdecaaGreat
open Go.RowKit
attribute [local go_sem ↓] Go.wp_at_zero Go.wp_at_succ

theorem cell_one_at (w : World) (g : Nat) (hg : w.heap.size = g) (x : Value) (t : TypeId) : ∀ j u, [x][j]? = some u → (w.alloc (.cells #[x] t)).cell? ((⟨g, 0, none⟩ : Addr).add j) = some u := by
  subst hg
  exact cell_one_new w x t
set_option maxHeartbeats 1000000 in
set_option maxRecDepth 100000 in
/-- WriteByte: a byte is laid behind. -/
theorem bld_byte (B b : Nat) (bs : List Value) (c : Int) (w : World) (h : IsB B b bs w) (hlen : bs.length + 1 ≤ 140737488355328) (hBw : B ≤ w.heap.size) :
    Calls Tryz.prog 136 #[.pointer (some ⟨b, 0, none⟩), .int .u8 c] w fun e w' => e = .returned .nilIface ∧ IsB B b (bs ++ [.int .u8 c]) w' ∧ Below B w w' := by
  obtain ⟨i0, hi, hz0, hz1, hz2⟩ := info_parts infoByte
  go_enter Tryz.func136, Tryz.ntmps136
  go_wp2_with fail
  refine (bld_check B b bs _ h).mono ?_
  rintro e w1 ⟨rfl, h1, hb1⟩
  obtain ⟨hB, v, hbk, hown, hne⟩ := h1
  have c0 : w1.cell? ⟨b, 0, none⟩ = some (.pointer (some ⟨b, 0, none⟩)) := by rw [Lib.cell_of_heap hbk]; rfl
  have c1 : w1.cell? ⟨b, 1, none⟩ = some v := by rw [Lib.cell_of_heap hbk]; rfl
  go_wp2_with (at_builtin; refine wpList_append_own _ rfl _ _ 22 rfl B 5 i0 (.int .u8 0) 1 1 Tryz.underlying22 hi hz0 hz1 hz2 rfl (by decide) _ _ _ rfl (hown.alloc _) ⟨w1.heap.size, 0, none⟩ 1 1 [.int .u8 c] rfl rfl ?c1 ?c2 ?c3 ?c4 ?c5 ?_)
  case c1 => exact cell_one_at _ _ rfl _ _
  case c2 => intro u hu; simp at hu; subst hu; rfl
  case c3 => unfold maxLen; omega
  case c4 => omega
  case c5 => have := hb1.size; simp; omega
  intro v' w2 hown' hgrow _
  have hlt : b < w1.heap.size := by
    rcases Nat.lt_or_ge b w1.heap.size with h' | h'
    · exact h'
    · simp [Array.getElem?_eq_none h'] at hbk
  have hb2 : w2.heap[b]? = some (.cells #[.pointer (some ⟨b, 0, none⟩), v] 200 (0, 0)) := by
    rw [hgrow.block b (by simp; omega) (fun e => hne e.symm), Lib.alloc_old w1 _ b hlt]
    exact hbk
  have d0 : w2.cell? ⟨b, 0, none⟩ = some (.pointer (some ⟨b, 0, none⟩)) := by rw [Lib.cell_of_heap hb2]; rfl
  have d1 : w2.cell? ⟨b, 1, none⟩ = some v := by rw [Lib.cell_of_heap hb2]; rfl
  have f1 : w2.frozen? ⟨b, 1, none⟩ = false := Lib.frozen_of_heap hb2 1
  obtain ⟨ao, n', cap, rfl⟩ : ∃ ao n' cap, v' = .slice ao n' cap := by
    rcases hown'.2 with ⟨hv, _⟩ | ⟨g, cap, cur, hv, _⟩
    · exact ⟨_, _, _, hv⟩
    · exact ⟨_, _, _, hv⟩
  go_wp2_with fail
  go_ret
  refine ⟨rfl, Or.inr ?_, ?_⟩
  · exact Lib.BuilderAt.put (T := 200) (e := 5) hB hb2 (bs' := bs ++ [.int .u8 c]) (by simpa using hown') (by decide)
  · exact ((hb1.alloc (by have := hb1.size; omega) _).grown hgrow (by have := hb1.size; simp; omega) (fun k hk => (hown.lt k hk).1)).setCell (p := ⟨b, 1, none⟩) hB _

/-- Values are stored in cells of a block, one behind the other. -/
def setL (w : World) (b : Nat) : Nat → List Value → World
  | _, [] => w
  | o, y :: ys => setL (w.setCell ⟨b, o, none⟩ y) b (o + 1) ys
theorem setL_spec {b : Nat} : ∀ (ys : List Value) (o : Nat) (w : World), (∀ i, i < ys.length → ∃ x, w.cell? ⟨b, o + i, none⟩ = some x) →
    (∀ i v, ys[i]? = some v → (setL w b o ys).cell? ⟨b, o + i, none⟩ = some v) ∧ (∀ b' o', (b' ≠ b ∨ o' < o) → (setL w b o ys).cell? ⟨b', o', none⟩ = w.cell? ⟨b', o', none⟩) ∧ (setL w b o ys).heap.size = w.heap.size ∧ (∀ p, (setL w b o ys).frozen? p = w.frozen? p) ∧ ∀ B w0, Below B w0 w → B ≤ b → Below B w0 (setL w b o ys)
  | [], o, w, _ => ⟨fun i v h => by simp at h, fun _ _ _ => rfl, rfl, fun _ => rfl, fun _ _ h _ => h⟩
  | y :: ys, o, w, h => by
    obtain ⟨h1, h2, h3, h4, h5⟩ := setL_spec (b := b) ys (o + 1) (w.setCell ⟨b, o, none⟩ y) (fun i hi => by
      obtain ⟨x, hx⟩ := h (i + 1) (by simp; omega)
      exact ⟨x, by rw [World.cell?_setCell_other _ _ _ _ (addr_ne (Or.inr (by omega)))]; rw [← hx]; congr 2; omega⟩)
    refine ⟨fun i v hv => ?_, fun b' o' hb => ?_, ?_, fun p => ?_, fun B w0 hB hb => ?_⟩
    · cases i with
      | zero =>
        obtain ⟨x, hx⟩ := h 0 (by simp)
        simp only [List.getElem?_cons_zero, Option.some.injEq] at hv
        subst hv
        show (setL (w.setCell ⟨b, o, none⟩ y) b (o + 1) ys).cell? ⟨b, o, none⟩ = some y
        rw [h2 b o (Or.inr (by omega))]
        exact World.cell?_setCell_same _ _ _ hx
      | succ i =>
        have := h1 i v (by simpa using hv)
        show (setL (w.setCell ⟨b, o, none⟩ y) b (o + 1) ys).cell? ⟨b, o + (i + 1), none⟩ = some v
        rw [← this]; congr 2; omega
    · show (setL (w.setCell ⟨b, o, none⟩ y) b (o + 1) ys).cell? ⟨b', o', none⟩ = _
      rw [h2 b' o' (by omega), World.cell?_setCell_other _ _ _ _ (addr_ne (by omega))]
    · show (setL (w.setCell ⟨b, o, none⟩ y) b (o + 1) ys).heap.size = _
      rw [h3, World.size_setCell]
    · show (setL (w.setCell ⟨b, o, none⟩ y) b (o + 1) ys).frozen? p = _
      rw [h4, World.frozen?_setCell]
    · exact h5 B w0 (hB.setCell (p := ⟨b, o, none⟩) hb _) hb

/-- May an address be? -/
def Placed (a : Int) : Prop := 0 ≤ a ∧ a ≤ 2147483647
instance (a : Int) : Decidable (Placed a) := by unfold Placed; infer_instance
set_option maxHeartbeats 1000000 in
theorem placed_any (a : Int) (w : World) : Calls Tryz.prog 181 #[.int .i64 a] w fun e w' => e = .returned (.bool (decide (Placed a))) ∧ Below w.heap.size w w' := by
  by_cases h1 : 0 ≤ a <;> by_cases h2 : a ≤ 2147483647
  all_goals
    go_enter Tryz.func181, Tryz.ntmps181
    go_wp2_with fail
    go_ret
    exact ⟨by
      first
        | rw [decide_eq_true (show Placed a from ⟨h1, h2⟩)]; rfl
        | rw [decide_eq_false (show ¬ Placed a from fun h => by obtain ⟨q1, q2⟩ := h; omega)]; rfl, Below.refl _ _⟩
set_option maxHeartbeats 1000000 in
theorem ptrWidths_any (w : World) : Calls Tryz.prog 175 #[] w fun e w' => (∃ b, e = .returned (.slice (some ⟨b, 0, none⟩) 3 3) ∧ b < w'.heap.size ∧ ∀ x y z, IntsW w' (some ⟨b, 0, none⟩) [(4, x), (8, y), (4, z)]) ∧ Below w.heap.size w w' := by
  go_enter Tryz.func175, Tryz.ntmps175
  go_wp2_with fail
  go_ret
  exact ⟨⟨w.heap.size, rfl, by simp, fun x y z => intsW_new w #[.int .i64 4, .int .i64 8, .int .i64 4] 3 (0, 0) [(4, x), (8, y), (4, z)] rfl⟩, by go_grown⟩

set_option maxRecDepth 100000 in
set_option maxHeartbeats 4000000 in
theorem ptrText_no (a : Int) (g s : Nat) (w : World) (h : ¬ Placed a) :
    Calls Tryz.prog 166 #[.agg #[.int .i64 a, .int .u64 g, .int .u32 s]] w fun e w' => e = .returned (.tuple #[.string (S []), .bool false]) ∧ Below w.heap.size w w' := by
  have HP := Lib.hid (fun w => placed_any a w)
  rw [decide_eq_false h] at HP
  clear h
  go_enter Tryz.func166, Tryz.ntmps166
  go_wp2_with fail
  refine (thread (HP.out _) w.heap.size w (by go_grown) (by go_grown)).mono ?_
  rintro e w1 ⟨rfl, hX1, -, -, -, hz1⟩
  go_wp2_with fail
  go_ret2
  exact ⟨rfl, hX1⟩
set_option maxRecDepth 100000 in
set_option maxHeartbeats 4000000 in
theorem ptrText_ok (a g s : Nat) (w : World) (ha : a ≤ 2147483647) (hg : g < 18446744073709551616) (hs : s < 4294967296) :
    Calls Tryz.prog 166 #[.agg #[.int .i64 a, .int .u64 g, .int .u32 s]] w fun e w' => e = .returned (.tuple #[.string (S (ptrL a g s)), .bool true]) ∧ Below w.heap.size w w' := by
  have HP := Lib.hid (fun w => placed_any (a : Int) w)
  rw [decide_eq_true (show Placed (a : Int) from ⟨by omega, by omega⟩)] at HP
  have hwa : IntKind.u64.wrap (a : Int) = (a : Int) := by rw [IntKind.wrap_u64]; omega
  have hws : IntKind.u64.wrap (s : Int) = (s : Int) := by rw [IntKind.wrap_u64]; omega
  have HF := Lib.hid (ptr_fit (a := a) (by omega) hg hs)
  go_enter Tryz.func166, Tryz.ntmps166
  go_wp2_with fail
  refine (thread (HP.out _) w.heap.size w (by go_grown) (by go_grown)).mono ?_
  rintro e w1 ⟨rfl, hX1, hk1, -, hs1, hz1⟩
  have e0 : w1.cell? ⟨w.heap.size, 0, none⟩ = some (.int .i64 a) := (hk1 w.heap.size 0 (by simp)).trans (by simp)
  have e1 : w1.cell? ⟨w.heap.size, 1, none⟩ = some (.int .u64 g) := (hk1 w.heap.size 1 (by simp)).trans (by simp)
  have e2 : w1.cell? ⟨w.heap.size, 2, none⟩ = some (.int .u32 s) := (hk1 w.heap.size 2 (by simp)).trans (by simp)
  have HX1 := Lib.hid hX1
  clear hk1 hX1 hs1
  go_upto_region 3 with (fail)
  go_region_held3 (fun w' => w'.cell? ⟨w.heap.size, 0, none⟩ = some (.int .i64 a) ∧ w'.cell? ⟨w.heap.size, 1, none⟩ = some (.int .u64 g) ∧ w'.cell? ⟨w.heap.size, 2, none⟩ = some (.int .u32 s) ∧ Below w.heap.size w w')
    (with_reducible first | assumption | exact ⟨cell_drew e0, cell_drew e1, cell_drew e2, below_drew' HX1.out⟩ | exact HS2.out | exact ⟨cell_drew (cell_past _ e0), cell_drew (cell_past _ e1), cell_drew (cell_past _ e2), below_drew' (HX1.out.alloc hz1 _)⟩ | (obtain ⟨m0, m1, m2, m3⟩ := ‹_ ∧ _ ∧ _ ∧ Below _ _ _›; exact ⟨cell_past _ m0, cell_past _ m1, cell_past _ m2, m3.alloc m3.size _⟩))
    (first
      | (go_at_call 175; go_must (refine (ptrWidths_any _).mono ?_; rintro e w2 ⟨⟨b, rfl, hb, hI⟩, hB2⟩; obtain ⟨m0, m1, m2, m3⟩ := ‹_ ∧ _ ∧ _ ∧ Below _ _ _›; have HS2 := Lib.hid (And.intro (kept_cell hB2 m0) (And.intro (kept_cell hB2 m1) (And.intro (kept_cell hB2 m2) (m3.trans (hB2.mono m3.size))))); have HI := Lib.hid hI; have HB2 := Lib.hid hB2; clear hB2 m0 m1 m2 m3 hI))
      | (go_at_call 158; (with_reducible show Calls _ _ _ (World.alloc _ _) _); go_must (refine (write_fit (some ⟨b, 0, none⟩) (some ⟨w2.heap.size, 0, none⟩) 3 3 [(4, a), (8, g), (4, s)] _ ((HI.out a g s).kept (show Below w2.heap.size w2 (w2.alloc (.cells #[.int .u64 a, .int .u64 g, .int .u64 s] 25)) by go_grown) (Nat.le_refl _)) (numsW_new w2 _ _ _ [(4, a), (8, g), (4, s)] rfl) (ptr_wide a g s) HF.out (by simp)).mono ?_; rintro e w3 ⟨rfl, hB3⟩; obtain ⟨m0, m1, m2, m3⟩ := HS2.out; have HL3 := Lib.hid ((m3.alloc m3.size (.cells #[.int .u64 a, .int .u64 g, .int .u64 s] 25)).trans (hB3.mono (by have := m3.size; simp; omega))); have n0 := kept_cell hB3 (cell_past (.cells #[.int .u64 a, .int .u64 g, .int .u64 s] 25) m0); have n1 := kept_cell hB3 (cell_past (.cells #[.int .u64 a, .int .u64 g, .int .u64 s] 25) m1); have n2 := kept_cell hB3 (cell_past (.cells #[.int .u64 a, .int .u64 g, .int .u64 s] 25) m2); have HS2 := Lib.hid (And.intro n0 (And.intro n1 (And.intro n2 HL3.out))); clear hB3 m0 m1 m2 m3 n0 n1 n2))
      | (go_at_call 158; go_must (refine (write_fit (some ⟨b, 0, none⟩) (some ⟨w1.heap.size, 0, none⟩) 3 3 [(4, a), (8, g), (4, s)] w2 (HI.out a g s) ((numsW_new w1 #[.int .u64 a, .int .u64 g, .int .u64 s] 25 (0, 0) [(4, a), (8, g), (4, s)] rfl).kept ((below_drew' (Below.refl _ _)).trans HB2.out) (Nat.le_refl _)) (ptr_wide a g s) HF.out (by simp)).mono ?_; rintro e w3 ⟨rfl, hB3⟩; obtain ⟨m0, m1, m2, m3⟩ := HS2.out; have HL3 := Lib.hid (m3.trans (hB3.mono m3.size)); have HS2 := Lib.hid (And.intro (kept_cell hB3 m0) (And.intro (kept_cell hB3 m1) (And.intro (kept_cell hB3 m2) HL3.out))); clear hB3 m0 m1 m2 m3)))
  all_goals
    go_wp2_with fail
    go_ret2
    exact ⟨rfl, HL3.out⟩

theorem numsW_three {w : World} {ao : Option Addr} {a g s : Nat} (h : NumsW w ao [(4, a), (8, g), (4, s)]) : ∃ b o, ao = some ⟨b, o, none⟩ ∧ b < w.heap.size ∧ w.cell? ⟨b, o, none⟩ = some (.int .u64 a) ∧ w.cell? ⟨b, o + 1, none⟩ = some (.int .u64 g) ∧ w.cell? ⟨b, o + 2, none⟩ = some (.int .u64 s) := by
  obtain ⟨b, o, rfl, hb, hc⟩ := h.at (by simp)
  refine ⟨b, o, rfl, hb, ?_, ?_, ?_⟩
  · have := hc 0 (by simp) 0 _ rfl; simpa using this
  · have := hc 1 (by simp) 0 _ rfl; simpa using this
  · have := hc 2 (by simp) 0 _ rfl; simpa using this

set_option maxRecDepth 100000 in
set_option maxHeartbeats 4000000 in
theorem parsePtr_ok (a g s : Nat) (rest : List UInt8) (w : World) (ha : a ≤ 2147483647) (hg : g < 18446744073709551616) (hs : s < 4294967296) (hl : rest.length ≤ 1000000) :
    Calls Tryz.prog 153 #[.string (S (ptrL a g s ++ rest))] w fun e w' => e = .returned (.tuple #[.agg #[.int .i64 a, .int .u64 g, .int .u32 s], .string (S rest), .bool true]) ∧ Below w.heap.size w w' := by
  have hwa : IntKind.i64.wrap (a : Int) = (a : Int) := IntWalk.i64_in _ (by omega)
  have hws : IntKind.u32.wrap (s : Int) = (s : Int) := by rw [IntKind.wrap_u32]; omega
  have HF := Lib.hid (ptr_fit (a := a) (by omega) hg hs)
  have ha' : ¬ (2147483647 : Int) < (a : Int) := by omega
  have HPL := Lib.hid (show ptrL a g s ++ rest = wtext [(4, a), (8, g), (4, s)] ++ rest from rfl)
  generalize ptrL a g s ++ rest = s0 at *
  go_enter Tryz.func153, Tryz.ntmps153
  go_upto_region 1 with (fail)
  have hX : Below w.heap.size w (w.alloc (.cells #[.int .i64 0, .int .u64 0, .int .u32 0] 54)) := by go_grown
  have HC := Lib.hid (show (w.alloc (.cells #[.int .i64 0, .int .u64 0, .int .u32 0] 54)).cell? ⟨w.heap.size, 0, none⟩ = some (.int .i64 0) ∧ (w.alloc (.cells #[.int .i64 0, .int .u64 0, .int .u32 0] 54)).cell? ⟨w.heap.size, 1, none⟩ = some (.int .u64 0) ∧ (w.alloc (.cells #[.int .i64 0, .int .u64 0, .int .u32 0] 54)).cell? ⟨w.heap.size, 2, none⟩ = some (.int .u32 0) by refine ⟨?_, ?_, ?_⟩ <;> (rw [World.cell?_alloc_at _ _ _ _ rfl]; rfl))
  have HG := Lib.hid (show ∀ o, (w.alloc (.cells #[.int .i64 0, .int .u64 0, .int .u32 0] 54)).frozen? ⟨w.heap.size, o, none⟩ = false from fun o => World.frozen?_alloc_at _ _ _ _ rfl)
  obtain ⟨W, hW⟩ : ∃ W, W = w.alloc (.cells #[.int .i64 0, .int .u64 0, .int .u32 0] 54) := ⟨_, rfl⟩
  have hWz : W.heap.size = w.heap.size + 1 := by rw [hW]; simp
  rw [← hW] at hX HC HG ⊢
  clear hW
  go_wp2_with fail
  refine (ptrWidths_any W).mono ?_
  rintro e w1 ⟨⟨b, rfl, hb, hI⟩, hB1⟩
  go_wp2_with fail
  rw [HPL.out]
  refine (read_ok (some ⟨b, 0, none⟩) 3 [(4, a), (8, g), (4, s)] rest w1 (hI a g s) (ptr_wide a g s) HF.out (by simp) hl).mono ?_
  rintro e w2 ⟨⟨ao, c, rfl, hn⟩, hB2⟩
  obtain ⟨nb, no, rfl, hnb, n0, n1, n2⟩ := numsW_three hn
  have hBW := hB1.trans (hB2.mono hB1.size)
  have HL := Lib.hid (hX.trans (hBW.mono hX.size))
  obtain ⟨k0, k1, k2⟩ := HC.out
  have z0 := kept_cell hBW k0
  have z1 := kept_cell hBW k1
  have z2 := kept_cell hBW k2
  have g0 := ((bcell hBW).2 w.heap.size 0 (by omega)).trans (HG.out 0)
  have g1 := ((bcell hBW).2 w.heap.size 1 (by omega)).trans (HG.out 1)
  have g2 := ((bcell hBW).2 w.heap.size 2 (by omega)).trans (HG.out 2)
  clear hI hB1 hB2 hBW hX HC HG hn k0 k1 k2 hWz hb HF
  rw [← HPL.out]
  go_upto_region 4 with (fail)
  go_region
  all_goals
    go_wp2_with fail
    obtain ⟨s1, -, -, -, s5⟩ := setL_spec (b := w.heap.size) [.int .i64 a, .int .u64 g, .int .u32 s] 0 w2 (fun i hi => by
      rcases i with _ | _ | _ | i
      · exact ⟨_, z0⟩
      · exact ⟨_, z1⟩
      · exact ⟨_, z2⟩
      · simp at hi; omega)
    have hZ : setL w2 w.heap.size 0 [.int .i64 a, .int .u64 g, .int .u32 s] = ((w2.setCell ⟨w.heap.size, 0, none⟩ (.int .i64 a)).setCell ⟨w.heap.size, 1, none⟩ (.int .u64 g)).setCell ⟨w.heap.size, 2, none⟩ (.int .u32 s) := rfl
    have t0 := s1 0 _ rfl
    have t1 := s1 1 _ rfl
    have t2 := s1 2 _ rfl
    have t5 := s5 _ _ HL.out (Nat.le_refl _)
    simp only [Nat.zero_add] at t0 t1 t2
    rw [← hZ]
    generalize setL w2 w.heap.size 0 [.int .i64 a, .int .u64 g, .int .u32 s] = Z at *
    exact bodyPost_ret (v := .tuple #[.agg #[.int .i64 a, .int .u64 g, .int .u32 s], .string (S rest), .bool true]) (by simp [results, Tryz.results153, go_sem, t0, t1, t2]) rfl ⟨rfl, below_drew' t5⟩

set_option maxRecDepth 100000 in
set_option maxHeartbeats 4000000 in
theorem parsePtr_far (a g s : Nat) (rest : List UInt8) (w : World) (ha : ¬ a ≤ 2147483647) (ha2 : a < 4294967296) (hg : g < 18446744073709551616) (hs : s < 4294967296) (hl : rest.length ≤ 1000000) :
    Calls Tryz.prog 153 #[.string (S (ptrL a g s ++ rest))] w fun e w' => e = .returned (.tuple #[.agg #[.int .i64 0, .int .u64 0, .int .u32 0], .string (S []), .bool false]) ∧ Below w.heap.size w w' := by
  have HF := Lib.hid (ptr_fit (a := a) ha2 hg hs)
  have ha' : (2147483647 : Int) < (a : Int) := by omega
  have HPL := Lib.hid (show ptrL a g s ++ rest = wtext [(4, a), (8, g), (4, s)] ++ rest from rfl)
  generalize ptrL a g s ++ rest = s0 at *
  go_enter Tryz.func153, Tryz.ntmps153
  go_upto_region 1 with (fail)
  have hX : Below w.heap.size w (w.alloc (.cells #[.int .i64 0, .int .u64 0, .int .u32 0] 54)) := by go_grown
  have HC := Lib.hid (show (w.alloc (.cells #[.int .i64 0, .int .u64 0, .int .u32 0] 54)).cell? ⟨w.heap.size, 0, none⟩ = some (.int .i64 0) ∧ (w.alloc (.cells #[.int .i64 0, .int .u64 0, .int .u32 0] 54)).cell? ⟨w.heap.size, 1, none⟩ = some (.int .u64 0) ∧ (w.alloc (.cells #[.int .i64 0, .int .u64 0, .int .u32 0] 54)).cell? ⟨w.heap.size, 2, none⟩ = some (.int .u32 0) by refine ⟨?_, ?_, ?_⟩ <;> (rw [World.cell?_alloc_at _ _ _ _ rfl]; rfl))
  have HG := Lib.hid (show ∀ o, (w.alloc (.cells #[.int .i64 0, .int .u64 0, .int .u32 0] 54)).frozen? ⟨w.heap.size, o, none⟩ = false from fun o => World.frozen?_alloc_at _ _ _ _ rfl)
  obtain ⟨W, hW⟩ : ∃ W, W = w.alloc (.cells #[.int .i64 0, .int .u64 0, .int .u32 0] 54) := ⟨_, rfl⟩
  have hWz : W.heap.size = w.heap.size + 1 := by rw [hW]; simp
  rw [← hW] at hX HC HG ⊢
  clear hW
  go_wp2_with fail
  refine (ptrWidths_any W).mono ?_
  rintro e w1 ⟨⟨b, rfl, hb, hI⟩, hB1⟩
  go_wp2_with fail
  rw [HPL.out]
  refine (read_ok (some ⟨b, 0, none⟩) 3 [(4, a), (8, g), (4, s)] rest w1 (hI a g s) (ptr_wide a g s) HF.out (by simp) hl).mono ?_
  rintro e w2 ⟨⟨ao, c, rfl, hn⟩, hB2⟩
  obtain ⟨nb, no, rfl, hnb, n0, n1, n2⟩ := numsW_three hn
  have hBW := hB1.trans (hB2.mono hB1.size)
  have HL := Lib.hid (hX.trans (hBW.mono hX.size))
  obtain ⟨k0, k1, k2⟩ := HC.out
  have z0 := kept_cell hBW k0
  have z1 := kept_cell hBW k1
  have z2 := kept_cell hBW k2
  have g0 := ((bcell hBW).2 w.heap.size 0 (by omega)).trans (HG.out 0)
  have g1 := ((bcell hBW).2 w.heap.size 1 (by omega)).trans (HG.out 1)
  have g2 := ((bcell hBW).2 w.heap.size 2 (by omega)).trans (HG.out 2)
  clear hI hB1 hB2 hBW hX HC HG hn k0 k1 k2 hWz hb HF
  rw [← HPL.out]
  go_wp2_with fail
  obtain ⟨s1, -, -, -, s5⟩ := setL_spec (b := w.heap.size) [.int .i64 0, .int .u64 0, .int .u32 0] 0 w2 (fun i hi => by
    rcases i with _ | _ | _ | i
    · exact ⟨_, z0⟩
    · exact ⟨_, z1⟩
    · exact ⟨_, z2⟩
    · simp at hi; omega)
  have hZ : setL w2 w.heap.size 0 [.int .i64 0, .int .u64 0, .int .u32 0] = ((w2.setCell ⟨w.heap.size, 0, none⟩ (.int .i64 0)).setCell ⟨w.heap.size, 1, none⟩ (.int .u64 0)).setCell ⟨w.heap.size, 2, none⟩ (.int .u32 0) := rfl
  have t0 := s1 0 _ rfl
  have t1 := s1 1 _ rfl
  have t2 := s1 2 _ rfl
  have t5 := s5 _ _ HL.out (Nat.le_refl _)
  simp only [Nat.zero_add] at t0 t1 t2
  rw [← hZ]
  generalize setL w2 w.heap.size 0 [.int .i64 0, .int .u64 0, .int .u32 0] = Z at *
  exact bodyPost_ret (v := .tuple #[.agg #[.int .i64 0, .int .u64 0, .int .u32 0], .string (S []), .bool false]) (by simp [results, Tryz.results153, go_sem, t0, t1, t2]; rfl) rfl ⟨rfl, t5⟩

set_option maxRecDepth 100000 in
set_option maxHeartbeats 4000000 in
theorem parsePtr_short (s0 : List UInt8) (w : World) (hs : s0.length < 16) :
    Calls Tryz.prog 153 #[.string (S s0)] w fun e w' => e = .returned (.tuple #[.agg #[.int .i64 0, .int .u64 0, .int .u32 0], .string (S []), .bool false]) ∧ Below w.heap.size w w' := by
  go_enter Tryz.func153, Tryz.ntmps153
  go_upto_region 1 with (fail)
  have hX : Below w.heap.size w (w.alloc (.cells #[.int .i64 0, .int .u64 0, .int .u32 0] 54)) := by go_grown
  have HC := Lib.hid (show (w.alloc (.cells #[.int .i64 0, .int .u64 0, .int .u32 0] 54)).cell? ⟨w.heap.size, 0, none⟩ = some (.int .i64 0) ∧ (w.alloc (.cells #[.int .i64 0, .int .u64 0, .int .u32 0] 54)).cell? ⟨w.heap.size, 1, none⟩ = some (.int .u64 0) ∧ (w.alloc (.cells #[.int .i64 0, .int .u64 0, .int .u32 0] 54)).cell? ⟨w.heap.size, 2, none⟩ = some (.int .u32 0) by refine ⟨?_, ?_, ?_⟩ <;> (rw [World.cell?_alloc_at _ _ _ _ rfl]; rfl))
  have HG := Lib.hid (show ∀ o, (w.alloc (.cells #[.int .i64 0, .int .u64 0, .int .u32 0] 54)).frozen? ⟨w.heap.size, o, none⟩ = false from fun o => World.frozen?_alloc_at _ _ _ _ rfl)
  obtain ⟨W, hW⟩ : ∃ W, W = w.alloc (.cells #[.int .i64 0, .int .u64 0, .int .u32 0] 54) := ⟨_, rfl⟩
  have hWz : W.heap.size = w.heap.size + 1 := by rw [hW]; simp
  rw [← hW] at hX HC HG ⊢
  clear hW
  go_wp2_with fail
  refine (ptrWidths_any W).mono ?_
  rintro e w1 ⟨⟨b, rfl, hb, hI⟩, hB1⟩
  go_wp2_with fail
  refine (read_short (some ⟨b, 0, none⟩) 3 [(4, 0), (8, 0), (4, 0)] s0 w1 (hI 0 0 0) (ptr_wide 0 0 0) (by simp) (by simpa [sumW] using hs)).mono ?_
  rintro e w2 ⟨rfl, hw2⟩
  obtain rfl : w2 = w1 := hw2.symm
  have hBW := hB1
  have HL := Lib.hid (hX.trans (hBW.mono hX.size))
  obtain ⟨k0, k1, k2⟩ := HC.out
  have z0 := kept_cell hBW k0
  have z1 := kept_cell hBW k1
  have z2 := kept_cell hBW k2
  have g0 := ((bcell hBW).2 w.heap.size 0 (by omega)).trans (HG.out 0)
  have g1 := ((bcell hBW).2 w.heap.size 1 (by omega)).trans (HG.out 1)
  have g2 := ((bcell hBW).2 w.heap.size 2 (by omega)).trans (HG.out 2)
  clear hI hB1 hBW hX HC HG k0 k1 k2 hWz hb
  go_wp2_with fail
  obtain ⟨s1, -, -, -, s5⟩ := setL_spec (b := w.heap.size) [.int .i64 0, .int .u64 0, .int .u32 0] 0 w2 (fun i hi => by
    rcases i with _ | _ | _ | i
    · exact ⟨_, z0⟩
    · exact ⟨_, z1⟩
    · exact ⟨_, z2⟩
    · simp at hi; omega)
  have hZ : setL w2 w.heap.size 0 [.int .i64 0, .int .u64 0, .int .u32 0] = ((w2.setCell ⟨w.heap.size, 0, none⟩ (.int .i64 0)).setCell ⟨w.heap.size, 1, none⟩ (.int .u64 0)).setCell ⟨w.heap.size, 2, none⟩ (.int .u32 0) := rfl
  have t0 := s1 0 _ rfl
  have t1 := s1 1 _ rfl
  have t2 := s1 2 _ rfl
  have t5 := s5 _ _ HL.out (Nat.le_refl _)
  simp only [Nat.zero_add] at t0 t1 t2
  rw [← hZ]
  generalize setL w2 w.heap.size 0 [.int .i64 0, .int .u64 0, .int .u32 0] = Z at *
  exact bodyPost_ret (v := .tuple #[.agg #[.int .i64 0, .int .u64 0, .int .u32 0], .string (S []), .bool false]) (by simp [results, Tryz.results153, go_sem, t0, t1, t2]; rfl) rfl ⟨rfl, t5⟩

theorem as_ptr (s0 : List UInt8) (h : 16 ≤ s0.length) : ∃ a g s rest, a < 4294967296 ∧ g < 18446744073709551616 ∧ s < 4294967296 ∧ s0 = ptrL a g s ++ rest := by
  obtain ⟨ps, rest, h1, h2, h3⟩ := as_nums [4, 8, 4] s0 (by simpa using h)
  match ps, h1 with
  | [(_, a), (_, g), (_, s)], h1 =>
    simp only [List.map_cons, List.map_nil, List.cons.injEq, and_true] at h1
    obtain ⟨rfl, rfl, rfl⟩ := h1
    exact ⟨a, g, s, rest, h2 (4, a) (by simp), h2 (8, g) (by simp), h2 (4, s) (by simp), h3⟩
theorem parsePtr_any (s0 : List UInt8) (w : World) (hl : s0.length ≤ 1000000) :
    Calls Tryz.prog 153 #[.string (S s0)] w fun e w' => ((∃ a g s rest, a ≤ 2147483647 ∧ g < 18446744073709551616 ∧ s < 4294967296 ∧ s0 = ptrL a g s ++ rest ∧ e = .returned (.tuple #[.agg #[.int .i64 (a : Nat), .int .u64 (g : Nat), .int .u32 (s : Nat)], .string (S rest), .bool true])) ∨ ((∀ a g s rest, a ≤ 2147483647 → g < 18446744073709551616 → s < 4294967296 → s0 ≠ ptrL a g s ++ rest) ∧ e = .returned (.tuple #[.agg #[.int .i64 0, .int .u64 0, .int .u32 0], .string (S []), .bool false]))) ∧ Below w.heap.size w w' := by
  by_cases h : 16 ≤ s0.length
  · obtain ⟨a, g, s, rest, ha, hg, hs, rfl⟩ := as_ptr s0 h
    have hr : rest.length ≤ 1000000 := by rw [List.length_append] at hl; omega
    by_cases hp : a ≤ 2147483647
    · exact (parsePtr_ok a g s rest w hp hg hs hr).mono fun e w' ⟨he, hb⟩ => ⟨Or.inl ⟨a, g, s, rest, hp, hg, hs, rfl, he⟩, hb⟩
    · refine (parsePtr_far a g s rest w hp ha hg hs hr).mono fun e w' ⟨he, hb⟩ => ⟨Or.inr ⟨fun a' g' s' rest' ha' hg' hs' e' => ?_, he⟩, hb⟩
      obtain ⟨h1, -⟩ := List.append_inj e' (by rw [ptrL_len, ptrL_len])
      obtain ⟨h2, -⟩ := ptrL_inj ha hg hs (by omega) hg' hs' h1
      omega
  · refine (parsePtr_short s0 w (by omega)).mono fun e w' ⟨he, hb⟩ => ⟨Or.inr ⟨fun a' g' s' rest' ha' hg' hs' e' => ?_, he⟩, hb⟩
    rw [e', List.length_append, ptrL_len] at h
    omega

end Go.Proofs.YtafciefjlkdecaaGreat
