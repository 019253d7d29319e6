/-
  The walk of a table's At.
-/
import Derived.Test.YtblleinahlaohaaBtb
namespace Go.Proofs.Ytblleinahlaohaa
open Go.RowKit Go.Shelf
set_option linter.unusedVariables false
attribute [local go_sem] Oper.semAt_some

/-- The place of a block: the spare that it was moved to last, or its own. -/
def PlaceIs (nb : Int) (zs : List Int) (x p : Int) : Prop :=
  (∃ k, k < zs.length ∧ zs[k]?.getD 0 = x ∧ (∀ j, k < j → j < zs.length → zs[j]?.getD 0 ≠ x) ∧ p = nb + k) ∨ ((∀ j, j < zs.length → zs[j]?.getD 0 ≠ x) ∧ p = x)
theorem upto_mem {zs : List Int} {k j : Nat} (hj : j < k) : backAt zs j ∈ upto (backAt zs) k := by simp only [upto, List.mem_map, List.mem_range]; exact ⟨j, hj, rfl⟩

set_option maxRecDepth 100000 in
set_option maxHeartbeats 4000000 in
theorem at_in (nb sp : Int) (sv : Value) (zs : List Int) (x : Int) (w : World) (h : Ints w.heap.size w sv zs) (hx : 0 ≤ x ∧ x < nb) (hnb : nb ≤ 4096) (hl : zs.length ≤ 900) :
    CallsIn Fence.wide 9 Try.prog 13 #[.agg #[.int .i64 nb, .int .i64 sp, sv], .int .i64 x] w fun e w' => (∃ p, e = .returned (.tuple #[.int .i64 p, .int .i64 0]) ∧ PlaceIs nb zs x p) ∧ Below w.heap.size w w' := by
  obtain ⟨a, c, rfl⟩ := h.len
  have his := fun w => is_any nb sp (.slice a zs.length c) ⟨_, _, _, rfl⟩ x w
  rw [show decide (0 ≤ x ∧ x < nb) = true by simp; omega] at his
  refine callsIn_of_wp_marks Try.func13 rfl trivial ?_ rfl
  simp only [Try.ntmps13, List.size_toArray, List.length_cons, List.length_nil, Nat.reduceAdd, Nat.reduceSub, Array.replicate_succ, Array.replicate_zero, List.push_toArray, List.append_toArray, List.nil_append, List.cons_append]
  gi_wp2
  refine ⟨trivial, (callsIn_wide.2 (his _)).mono ?_⟩
  rintro e w1 ⟨rfl, hB1⟩
  obtain ⟨W, hW⟩ : ∃ W, W = ((((w.alloc (.cells #[.int .i64 nb, .int .i64 sp, .slice a zs.length c] 25)).alloc (.cells #[.int .i64 x] 3)).alloc (.cells #[.int .i64 0] 3)).alloc (.cells #[.int .i64 0] 26)) := ⟨_, rfl⟩
  rw [← hW] at hB1
  have hX : Below w.heap.size w W := by rw [hW]; go_grown
  have hWz : W.heap.size = w.heap.size + 4 := by rw [hW]; simp
  have c0 : W.cell? ⟨w.heap.size, 0, none⟩ = some (.int .i64 nb) := by
    rw [hW, World.cell?_alloc_past _ _ _ (by simp <;> omega), World.cell?_alloc_past _ _ _ (by simp <;> omega), World.cell?_alloc_past _ _ _ (by simp <;> omega), World.cell?_alloc_at _ _ _ _ rfl]; rfl
  have c2 : W.cell? ⟨w.heap.size, 2, none⟩ = some (.slice a zs.length c) := by
    rw [hW, World.cell?_alloc_past _ _ _ (by simp <;> omega), World.cell?_alloc_past _ _ _ (by simp <;> omega), World.cell?_alloc_past _ _ _ (by simp <;> omega), World.cell?_alloc_at _ _ _ _ rfl]; rfl
  have cx : W.cell? ⟨w.heap.size + 1, 0, none⟩ = some (.int .i64 x) := by
    rw [hW, World.cell?_alloc_past _ _ _ (by simp), World.cell?_alloc_past _ _ _ (by simp), World.cell?_alloc_at _ _ _ _ (by simp)]; rfl
  have cr : W.cell? ⟨w.heap.size + 1 + 1, 0, none⟩ = some (.int .i64 0) := by
    rw [hW, World.cell?_alloc_past _ _ _ (by simp), World.cell?_alloc_at _ _ _ _ (by simp)]; rfl
  have ce : W.cell? ⟨w.heap.size + 1 + 1 + 1, 0, none⟩ = some (.int .i64 0) := by
    rw [hW, World.cell?_alloc_at _ _ _ _ (by simp)]; rfl
  have fr : W.frozen? ⟨w.heap.size + 1 + 1, 0, none⟩ = false := by
    rw [hW, World.frozen?_alloc_past _ _ _ (by simp), World.frozen?_alloc_at _ _ _ _ (by simp)]
  have fe : W.frozen? ⟨w.heap.size + 1 + 1 + 1, 0, none⟩ = false := by
    rw [hW, World.frozen?_alloc_at _ _ _ _ (by simp)]
  clear hW
  replace c0 := kept_cell hB1 c0
  replace c2 := kept_cell hB1 c2
  replace cx := kept_cell hB1 cx
  replace cr := kept_cell hB1 cr
  replace ce := kept_cell hB1 ce
  replace fr := ((bcell hB1).2 _ 0 (by omega)).trans fr
  replace fe := ((bcell hB1).2 _ 0 (by omega)).trans fe
  have hz1 := hB1.size
  have hL1 : Below w.heap.size w w1 := hX.trans (hB1.mono (by omega))
  have hI1 : Ints w1.heap.size w1 (.slice a zs.length c) zs := h.kept hL1
  clear hX hB1 h
  have hback := back_in Fence.wide 8 trivial rfl a zs.length c w1
  gi_wp2
  refine ⟨trivial, hback.mono ?_⟩
  rintro e w2 ⟨rfl, rfl⟩
  gi_wp2
  have z0 := cell_past (.cells #[.slice a zs.length c] 23) c0
  have zx := cell_past (.cells #[.slice a zs.length c] 23) cx
  have zr := cell_past (.cells #[.slice a zs.length c] 23) cr
  have ze := cell_past (.cells #[.slice a zs.length c] 23) ce
  have zfr : (w1.alloc (.cells #[.slice a zs.length c] 23)).frozen? ⟨w.heap.size + 1 + 1, 0, none⟩ = false := by rw [World.frozen?_alloc_past _ _ _ (by omega)]; exact fr
  have zfe : (w1.alloc (.cells #[.slice a zs.length c] 23)).frozen? ⟨w.heap.size + 1 + 1 + 1, 0, none⟩ = false := by rw [World.frozen?_alloc_past _ _ _ (by omega)]; exact fe
  have zs0 : (w1.alloc (.cells #[.slice a zs.length c] 23)).cell? ⟨w1.heap.size, 0, none⟩ = some (.slice a zs.length c) := by simp
  have zB : Below w.heap.size w (w1.alloc (.cells #[.slice a zs.length c] 23)) := hL1.alloc (by omega) _
  have zI : Ints (w1.alloc (.cells #[.slice a zs.length c] 23)).heap.size (w1.alloc (.cells #[.slice a zs.length c] 23)) (.slice a zs.length c) zs := hI1.kept ((Below.refl _ w1).alloc (Nat.le_refl _) _)
  have hsz : (w1.alloc (.cells #[.slice a zs.length c] 23)).heap.size = w1.heap.size + 1 := by simp
  refine wpIn_rangeFunc_ownG rfl (by decide) (gf := 34) (lb := #[.pointer (some ⟨w1.heap.size, 0, none⟩)]) rfl trivial (enters_of Try.func34 (by kernel_rfl) rfl)
    (back_stops Fence.wide 8 trivial rfl (by decide) w1.heap.size (w1.alloc (.cells #[.slice a zs.length c] 23)).heap.size _ zs (by omega) _ (by rw [hsz]; omega) (Nat.le_refl _) zs0 zI) belowK_t (belowK_b (Nat.le_refl _)) (Below.refl _ _) (fun _ => rfl)
    (fun pre W => ((∀ p ∈ pre, p.2 ≠ x) ∧ W.cell? ⟨w.heap.size, 0, none⟩ = some (.int .i64 nb) ∧ W.cell? ⟨w.heap.size + 1, 0, none⟩ = some (.int .i64 x) ∧ (W.cell? ⟨w.heap.size + 1 + 1, 0, none⟩ = some (.int .i64 0) ∧ W.frozen? ⟨w.heap.size + 1 + 1, 0, none⟩ = false) ∧ (W.cell? ⟨w.heap.size + 1 + 1 + 1, 0, none⟩ = some (.int .i64 0) ∧ W.frozen? ⟨w.heap.size + 1 + 1 + 1, 0, none⟩ = false)) ∧ Below w.heap.size w W)
    (fun c pre W => (c = .ret ∧ ∃ ini last, pre = ini ++ [last] ∧ (∀ p ∈ ini, p.2 ≠ x) ∧ last.2 = x ∧ W.cell? ⟨w.heap.size + 1 + 1, 0, none⟩ = some (.int .i64 (wrap64 (nb + (last.1 : Int)))) ∧ W.cell? ⟨w.heap.size + 1 + 1 + 1, 0, none⟩ = some (.int .i64 0)) ∧ Below w.heap.size w W)
    (OwnFrom.and (Own.from (fun s A B row hs hg hr => ⟨hs.1, cell_kept hs.2.1 hg hr, cell_kept hs.2.2.1 hg hr, ⟨cell_kept hs.2.2.2.1.1 hg hr, (frozen_kept hs.2.2.2.1.1 hg hr).trans hs.2.2.2.1.2⟩, ⟨cell_kept hs.2.2.2.2.1 hg hr, (frozen_kept hs.2.2.2.2.1 hg hr).trans hs.2.2.2.2.2⟩⟩) _) (ownFrom_below (Nat.le_refl _) (by rw [hsz]; omega)))
    (fun c => OwnFrom.and (Own.from (fun s A B row hs hg hr => by obtain ⟨hc, ini, last, e1, e2, e3, e4, e5⟩ := hs; exact ⟨hc, ini, last, e1, e2, e3, cell_kept e4 hg hr, cell_kept e5 hg hr⟩) _) (ownFrom_below (Nat.le_refl _) (by rw [hsz]; omega)))
    ⟨⟨by simp, z0, zx, ⟨zr, zfr⟩, ⟨ze, zfe⟩⟩, zB⟩
    (fun y => { tmps := #[.agg #[.int .i64 nb, .int .i64 sp, .slice a zs.length c], .int .i64 x, .pointer (some ⟨w.heap.size, 0, none⟩), .pointer (some ⟨w.heap.size + 1, 0, none⟩), .pointer (some ⟨w.heap.size + 1 + 1, 0, none⟩), .pointer (some ⟨w.heap.size + 1 + 1 + 1, 0, none⟩), .int .i64 (y.1 : Int), .int .i64 y.2, .agg #[.int .i64 nb, .int .i64 sp, .slice a zs.length c], .int .i64 x, .bool true, .bool false, .pointer (some ⟨w.heap.size, 2, none⟩), .slice a zs.length c, .func (.func 34) #[] #[.pointer (some ⟨w1.heap.size, 0, none⟩)], .int .i64 (y.1 : Int), .int .i64 y.2, undef, undef, undef, undef, undef, undef, undef, undef], defers := [] }) ?assign ?body ?done ?stop
  case assign =>
    intro l y W K hK
    gi_wp2
    exact hK
  case body =>
    rintro l pre y W ⟨⟨hp, h0, h1, ⟨h2, h3⟩, ⟨h4, h5⟩⟩, hB⟩ _
    have nRE : (⟨w.heap.size + 1 + 1 + 1, 0, none⟩ : Addr) ≠ ⟨w.heap.size + 1 + 1, 0, none⟩ := fun e => by injection e with e1 e2; omega
    by_cases hy : y.2 = x
    · gi_wp2
      exact ⟨((KeepsOthers.setCell _ _ _).trans (KeepsOthers.setCell _ _ _)).from _, ⟨rfl, pre, y, rfl, hp, hy, by rw [World.cell?_setCell_other _ _ _ _ nRE]; exact World.cell?_setCell_same _ _ _ h2, World.cell?_setCell_same _ _ _ ((World.cell?_setCell_other _ _ _ _ nRE.symm).trans h4)⟩, (hB.setCell (p := ⟨w.heap.size + 1 + 1, 0, none⟩) (show w.heap.size ≤ w.heap.size + 1 + 1 by omega) _).setCell (p := ⟨w.heap.size + 1 + 1 + 1, 0, none⟩) (show w.heap.size ≤ w.heap.size + 1 + 1 + 1 by omega) _⟩
    · gi_wp2
      exact ⟨KeepsFrom.refl _ _, Below.refl _ _, ⟨fun p hp' => (List.mem_append.1 hp').elim (hp p) (fun e => by simp at e; subst e; exact hy), h0, h1, ⟨h2, h3⟩, ⟨h4, h5⟩⟩, hB⟩
  case done =>
    rintro D ys W hD rfl ⟨⟨hne, h0, h1, ⟨h2, h3⟩, ⟨h4, h5⟩⟩, hB⟩ hK
    have nRE : (⟨w.heap.size + 1 + 1 + 1, 0, none⟩ : Addr) ≠ ⟨w.heap.size + 1 + 1, 0, none⟩ := fun e => by injection e with e1 e2; omega
    gi_wp2
    have hK1 := (KeepsOthers.setCell W ⟨w.heap.size + 1 + 1, 0, none⟩ (.int .i64 x)).same D _ hK rfl
    have hK2 := (KeepsOthers.setCell (W.setCell ⟨w.heap.size + 1 + 1, 0, none⟩ (.int .i64 x)) ⟨w.heap.size + 1 + 1 + 1, 0, none⟩ (.int .i64 0)).same D _ hK1 rfl
    refine ⟨by simp, .inl ⟨_, _, rfl, run_takeDeferred hK2, ?_⟩⟩
    have hr : ((W.setCell ⟨w.heap.size + 1 + 1, 0, none⟩ (.int .i64 x)).setCell ⟨w.heap.size + 1 + 1 + 1, 0, none⟩ (.int .i64 0)).cell? ⟨w.heap.size + 1 + 1, 0, none⟩ = some (.int .i64 x) := by rw [World.cell?_setCell_other _ _ _ _ nRE]; exact World.cell?_setCell_same _ _ _ h2
    have hee : ((W.setCell ⟨w.heap.size + 1 + 1, 0, none⟩ (.int .i64 x)).setCell ⟨w.heap.size + 1 + 1 + 1, 0, none⟩ (.int .i64 0)).cell? ⟨w.heap.size + 1 + 1 + 1, 0, none⟩ = some (.int .i64 0) := World.cell?_setCell_same _ _ _ ((World.cell?_setCell_other _ _ _ _ nRE.symm).trans h4)
    have hcR := cell_kept hr (grownBy_putObj' _ D (.deferred none)) (fun r e => by cases e; exact ⟨_, hK2, rfl⟩)
    have hcE := cell_kept hee (grownBy_putObj' _ D (.deferred none)) (fun r e => by cases e; exact ⟨_, hK2, rfl⟩)
    refine ⟨.tuple #[.int .i64 x, .int .i64 0], ?_, ⟨x, rfl, Or.inr ⟨fun j hj => ?_, rfl⟩⟩, ((hB.setCell (p := ⟨w.heap.size + 1 + 1, 0, none⟩) (show w.heap.size ≤ w.heap.size + 1 + 1 by omega) _).setCell (p := ⟨w.heap.size + 1 + 1 + 1, 0, none⟩) (show w.heap.size ≤ w.heap.size + 1 + 1 + 1 by omega) _).trans (belowK_b (w := w) (Nat.le_refl _) _ D _ _ (by rw [hsz] at hD; omega) hK2 rfl rfl)⟩
    · simp [results, Try.f13, go_sem, hcR, hcE]
    · have h9 := hne (backAt zs (zs.length - 1 - j)) (upto_mem (by omega))
      unfold backAt at h9
      rw [show zs.length - 1 - (zs.length - 1 - j) = j by omega] at h9
      exact h9
  case stop =>
    rintro D c pre W hD ⟨k, hk, rfl⟩ ⟨⟨rfl, ini, last, e1, e2, e3, e4, e5⟩, hB⟩ hK
    gi_wp2
    refine ⟨by simp, .inl ⟨_, _, rfl, run_takeDeferred hK, ?_⟩⟩
    have hcR := cell_kept e4 (grownBy_putObj' _ D (.deferred none)) (fun r e => by cases e; exact ⟨_, hK, rfl⟩)
    have hcE := cell_kept e5 (grownBy_putObj' _ D (.deferred none)) (fun r e => by cases e; exact ⟨_, hK, rfl⟩)
    obtain ⟨k', rfl⟩ : ∃ k', k = k' + 1 := by
      cases k with
      | zero => simp [upto] at e1
      | succ k' => exact ⟨k', rfl⟩
    rw [upto_succ] at e1
    obtain ⟨rfl, e6⟩ := List.append_inj' e1 rfl
    obtain rfl : backAt zs k' = last := by simpa using e6
    have hwr : wrap64 (nb + ((backAt zs k').1 : Int)) = nb + ((backAt zs k').1 : Int) := by have h7 : (backAt zs k').1 ≤ 900 := (by show zs.length - 1 - k' ≤ 900; omega); generalize (backAt zs k').1 = g7 at *; unfold wrap64; omega
    refine ⟨.tuple #[.int .i64 (wrap64 (nb + ((backAt zs k').1 : Int))), .int .i64 0], ?_, ⟨_, rfl, Or.inl ⟨zs.length - 1 - k', by omega, ?_, fun j hj1 hj2 => ?_, ?_⟩⟩, hB.trans (belowK_b (w := w) (Nat.le_refl _) W D _ _ (by rw [hsz] at hD; omega) hK rfl rfl)⟩
    · simp [results, Try.f13, go_sem, hcR, hcE]
    · exact e3
    · have h9 := e2 (backAt zs (zs.length - 1 - j)) (upto_mem (by omega))
      unfold backAt at h9
      rw [show zs.length - 1 - (zs.length - 1 - j) = j by omega] at h9
      exact h9
    · rw [hwr]; rfl
theorem at_any (nb sp : Int) (sv : Value) (zs : List Int) (x : Int) (w : World) (h : Ints w.heap.size w sv zs) (hx : 0 ≤ x ∧ x < nb) (hnb : nb ≤ 4096) (hl : zs.length ≤ 900) :
    Calls Try.prog 13 #[.agg #[.int .i64 nb, .int .i64 sp, sv], .int .i64 x] w fun e w' => (∃ p, e = .returned (.tuple #[.int .i64 p, .int .i64 0]) ∧ PlaceIs nb zs x p) ∧ Below w.heap.size w w' :=
  callsIn_wide.1 (at_in nb sp sv zs x w h hx hnb hl)

end Go.Proofs.Ytblleinahlaohaa
