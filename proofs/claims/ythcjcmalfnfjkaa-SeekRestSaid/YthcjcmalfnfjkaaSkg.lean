/-
  The walk of made.
-/
import Derived.Test.YthcjcmalfnfjkaaSkb
import Derived.Deep.DeepCutAuto
import Derived.Laws.Rows
import Derived.Laws.Tables
import Derived.Laws.PanicsMore
import Derived.Deep.RegionLawGrows
namespace Go.Proofs.Ythcjcmalfnfjkaa
open Go.RowKit
set_option linter.unusedVariables false
attribute [local go_sem ↓] Go.wp_at_zero Go.wp_at_succ

def A256 : Array Value := Array.replicate 256 (.bool false)
theorem wpList_build_as {P : Program} {ops : Array Oper} {rest : List Oper} {o : Oper} {a : Act} {w : World} {Q : Exit → Act → World → Prop} (hg : o.guard = none) (t : TypeId) (parts : Array (Nat × Operand)) (ho : o.op = .build t parts) (v : Array Value)
    (hf : P.built t (parts.map fun (i, x) => (i, a.eval x)).toList = some v) (h : wpList P ops Q rest (a.put o.dst (.agg v)) w) : wpList P ops Q (o :: rest) a w :=
  wpList_build hg t parts ho (by rw [hf]; rfl) (by rw [hf]; exact h)
theorem size_A : A256.size = 256 := by unfold A256; simp

theorem infoR : (Try.prog.info? 68).map (fun i => (i.zero, i.size, i.bytes)) = some (some (.agg #[.string ByteArray.empty, .string ByteArray.empty]), 2, 32) := by kernel_rfl
theorem idx_arr (cs : Array Value) (k : Nat) (h : k < 256) (v : Value) (hv : cs[k]? = some v) (w : World) : (Instr.index 101 (.agg cs) (.int .i64 (k : Int))).run Try.prog w = .ok v w := by
  have hn : (0 : Int) ≤ (k : Int) ∧ (k : Int) < 256 := by omega
  simp [Instr.index, run_underlying Try.underlying101, asIntOf, hn, go_sem]
  rw [if_pos h, hv]
  rfl
/-- Which bytes have been seen. -/
def usedV (u : List Int) : List Value := (List.range 256).map fun i : Nat => .bool (decide ((i : Int) ∈ u))
theorem usedV_length (u : List Int) : (usedV u).length = 256 := by simp [usedV]
theorem usedV_get (u : List Int) (i : Nat) (h : i < 256) : (usedV u)[i]? = some (.bool (decide ((i : Int) ∈ u))) := by simp [usedV, h]
theorem usedV_nil : usedV [] = A256.toList := by kernel_rfl
theorem usedV_set (u : List Int) (i : Nat) : (usedV u).set i (.bool true) = usedV (u ++ [(i : Int)]) := by
  apply List.ext_getElem
  · simp [usedV]
  · intro j h1 h2
    rw [List.getElem_set]
    simp only [usedV, List.getElem_map, List.getElem_range, List.mem_append, List.mem_singleton]
    by_cases e : i = j
    · subst e; simp
    · rw [if_neg e]
      have : ¬ ((j : Int) = (i : Int)) := by omega
      simp [this]
def entK (k : Nat) : Ent := ⟨[UInt8.ofNat k, 107], [UInt8.ofNat k]⟩
def madeTo (u : List Int) (n : Nat) : List Ent := ((List.range n).filter fun (k : Nat) => decide ((k : Int) ∈ u)).map entK
def madeL (u : List Int) : List Ent := madeTo u 256
theorem madeTo_succ (u : List Int) (k : Nat) : madeTo u (k + 1) = if ((k : Int) ∈ u) then madeTo u k ++ [entK k] else madeTo u k := by
  unfold madeTo
  rw [List.range_succ, List.filter_append]
  by_cases h : (k : Int) ∈ u
  · rw [if_pos h, List.filter_cons_of_pos (by simpa using h)]; simp
  · rw [if_neg h, List.filter_cons_of_neg (by simpa using h)]; simp
theorem madeTo_len (u : List Int) (n : Nat) : (madeTo u n).length ≤ n := by
  unfold madeTo
  rw [List.length_map]
  exact Nat.le_trans (List.length_filter_le _ _) (by simp)

set_option maxRecDepth 100000 in
set_option maxHeartbeats 8000000 in
theorem made_any (ao : Option Addr) (c : Nat) (l : List Int) (w : World) (hs : SlAt (fun x : Int => [Value.int .u8 x]) 1 w ao l) (hc : l.length ≤ c) (hx : ∀ x ∈ l, 0 ≤ x ∧ x < 256) (hl : (l.length : Int) ≤ 9223372036854775807) :
    Calls Try.prog 25 #[.slice ao l.length c] w fun e w' => e = .returned (.pointer (some ⟨w.heap.size, 0, none⟩)) ∧ ShAt w' w'.heap.size w'.heap.size w.heap.size (.slice none 0 0) (madeL l) [] 0 ∧ Below w.heap.size w w' := by
  obtain ⟨i0, hi0, iz0, iz1, iz2⟩ := info_parts infoR
  have hcv1 := fun w n c => run_str1 (P := Try.prog) 61 9 5 Try.underlying61 Try.underlying5 Try.underlying9 w n c
  have hcv2 := fun w n c => run_str2 (P := Try.prog) 61 9 5 Try.underlying61 Try.underlying5 Try.underlying9 w n c
  have HS := Lib.hid hs
  have HX := Lib.hid hx
  clear hs hx
  go_enter Try.func25, Try.ntmps25
  go_upto_region 2 with (fail)
  go_wp2_with (first | (refine wpList_build_as rfl 101 _ rfl A256 (by kernel_rfl) ?_) | (refine wpList_store_row rfl 101 _ _ rfl (w.heap.size + 1) A256 rfl rfl 101 Try.zeroCells101 (heap_alloc2_new _ _ _) (by kernel_rfl) (by kernel_rfl) (by kernel_rfl) ?_))
  obtain ⟨W, hW⟩ : ∃ W, W = ((w.alloc (.cells #[.slice none 0 0, .slice none 0 0, .int .i64 0] 67)).alloc (.cells Try.zeroCells101 101)).setRow (w.heap.size + 1) A256 := ⟨_, rfl⟩
  rw [← hW]
  have hrow0 : RowIs W 101 (w.heap.size + 1) (usedV []) := by
    rw [hW, usedV_nil]
    show (World.setRow _ _ _).heap[_]? = _
    rw [setRow_heap _ _ _ _ _ _ (heap_alloc2_new _ _ _)]
  have far : ∀ b, b ≠ w.heap.size + 1 → W.heap[b]? = ((w.alloc (.cells #[.slice none 0 0, .slice none 0 0, .int .i64 0] 67)).alloc (.cells Try.zeroCells101 101)).heap[b]? := fun b hb => by
    rw [hW]; exact setRow_other _ _ _ _ hb
  have s0 : W.cell? ⟨w.heap.size, 0, none⟩ = some (.slice none 0 0) := by
    rw [World.cell?_of_block (far w.heap.size (by omega)), World.cell?_alloc_past _ _ _ (by simp), World.cell?_alloc_at _ _ _ _ rfl]; rfl
  have s1 : W.cell? ⟨w.heap.size, 1, none⟩ = some (.slice none 0 0) := by
    rw [World.cell?_of_block (far w.heap.size (by omega)), World.cell?_alloc_past _ _ _ (by simp), World.cell?_alloc_at _ _ _ _ rfl]; rfl
  have s2 : W.cell? ⟨w.heap.size, 2, none⟩ = some (.int .i64 0) := by
    rw [World.cell?_of_block (far w.heap.size (by omega)), World.cell?_alloc_past _ _ _ (by simp), World.cell?_alloc_at _ _ _ _ rfl]; rfl
  have sf : ∀ o, W.frozen? ⟨w.heap.size, o, none⟩ = false := fun o => by
    rw [World.frozen?_of_block (far w.heap.size (by omega)), World.frozen?_alloc_past _ _ _ (by simp), World.frozen?_alloc_at _ _ _ _ rfl]
  have hWs : w.heap.size + 1 < W.heap.size := hrow0.lt
  have hWB : Below w.heap.size w W := ⟨by rw [hW]; rfl, by rw [hW]; rfl, by rw [hW]; rfl, by omega, fun k hk => (far k (by omega)).trans ((Below.heap_alloc _ _ k (by simp; omega)).trans (Below.heap_alloc w _ k hk))⟩
  have HR0 := Lib.hid hrow0
  have HF := Lib.hid sf
  clear hW far hrow0 sf
  go_loopw [14] (fun i wr => ∃ (j : Nat), i = .int .i64 j ∧ j ≤ l.length ∧ Hid (RowIs wr 101 (w.heap.size + 1) (usedV (l.take j))) ∧ wr.cell? ⟨w.heap.size, 0, none⟩ = some (.slice none 0 0) ∧ wr.cell? ⟨w.heap.size, 1, none⟩ = some (.slice none 0 0) ∧ wr.cell? ⟨w.heap.size, 2, none⟩ = some (.int .i64 0) ∧ Hid (∀ o, wr.frozen? ⟨w.heap.size, o, none⟩ = false) ∧ Below w.heap.size w wr) (fun i _ => l.length - (intOf i).toNat)
  case atStart => exact ⟨0, rfl, Nat.zero_le _, HR0, s0, s1, s2, HF, hWB⟩
  case round =>
    obtain ⟨j, rfl, hj, HR, r0, r1, r2, HFr, hB⟩ := hrel
    have hj0 : (0 : Int) ≤ (j : Int) := Int.natCast_nonneg _
    have hzr := HR.out.lt
    clear s0 s1 s2
    by_cases hjl : j < l.length
    · have hj1 : (j : Int) < (l.length : Int) := by omega
      obtain ⟨b, off, rfl, hb, hcl⟩ := (HS.out.kept hB (Nat.le_refl _)).at (by omega)
      have q0 := hcl j hjl 0 _ rfl
      simp only [Nat.add_zero, Nat.mul_one] at q0
      obtain ⟨hx0, hx1⟩ := HX.out _ (List.getElem_mem hjl)
      have HT := Lib.hid (show l.take (j + 1) = l.take j ++ [l[j]] from List.take_succ_eq_append_getElem hjl)
      clear hcl
      generalize l[j] = x at *
      obtain ⟨y, rfl⟩ := Int.eq_ofNat_of_zero_le hx0
      have hy : y < 256 := by omega
      have m0 : wr.cell? ⟨w.heap.size + 1, y, none⟩ = some (.bool (decide ((y : Int) ∈ l.take j))) := by rw [HR.out.cell, usedV_get _ _ hy]
      have mf : wr.frozen? ⟨w.heap.size + 1, y, none⟩ = false := HR.out.frozen y
      generalize (decide ((y : Int) ∈ l.take j)) = bq at *
      go_wp2_with fail
      have hr' : RowIs (wr.setCell ⟨w.heap.size + 1, y, none⟩ (.bool true)) 101 (w.heap.size + 1) (usedV (l.take (j + 1))) := by
        rw [HT.out, ← usedV_set]
        have h := heap_setCell_same wr (w.heap.size + 1) y (usedV (l.take j)).toArray 101 (.bool true) HR.out
        unfold RowIs
        rw [h]
        simp
      exact ⟨⟨j + 1, by go_num, by omega, Lib.hid hr', far_block (by omega) r0, far_block (by omega) r1, far_block (by omega) r2, Lib.hid (fun o => by rw [World.frozen?_setCell]; exact HFr.out o), hB.setCell (p := ⟨w.heap.size + 1, y, none⟩) (by simp) _⟩, by simp [intOf]; omega⟩
    · obtain rfl : j = l.length := by omega
      rw [List.take_length] at HR
      obtain ⟨w1, hw1⟩ : ∃ w1, w1 = wr := ⟨_, rfl⟩
      subst hw1
      go_wp2_with (refine wpList_load_row rfl 101 _ rfl (w.heap.size + 1) rfl 101 _ _ _ HR.out Try.underlying101 rfl (by rw [List.size_toArray, usedV_length]; kernel_rfl) ?_)
      have HOW0 := Lib.hid (World.ownsRow_nil w1 w1.heap.size 68 2)
      have hw1z := hB.size
      have HB1 := Lib.hid hB
      clear hB
      go_loopw [22] (fun i wr => ∃ (k : Nat) (o : List Ent) (v : Value), i = .int .i64 k ∧ k ≤ 256 ∧ Hid (o = madeTo l k) ∧ wr.cell? ⟨w.heap.size, 0, none⟩ = some v ∧ wr.cell? ⟨w.heap.size, 1, none⟩ = some (.slice none 0 0) ∧ wr.cell? ⟨w.heap.size, 2, none⟩ = some (.int .i64 0) ∧ Hid (∀ o, wr.frozen? ⟨w.heap.size, o, none⟩ = false) ∧ Hid (wr.ownsRow w1.heap.size 68 2 v o.length (cellsE o)) ∧ Hid (Below w.heap.size w wr) ∧ w1.heap.size ≤ wr.heap.size) (fun i _ => 256 - (intOf i).toNat)
      case atStart => exact ⟨0, [], .slice none 0 0, rfl, by omega, Lib.hid (by simp [madeTo]), r0, r1, r2, HFr, HOW0, HB1, Nat.le_refl _⟩
      case round =>
        obtain ⟨k, o, v, rfl, hk, ho, r0, r1, r2, HFr, HO, HB, hzr⟩ := hrel
        have hk0 : (0 : Int) ≤ (k : Int) := Int.natCast_nonneg _
        obtain ⟨ov, oc, eo⟩ := own_form HO.out
        subst eo
        have hol : o.length ≤ 256 := by rw [ho.out]; exact Nat.le_trans (madeTo_len l k) hk
        have hqr : w.heap.size < wr.heap.size := by omega
        by_cases hk2 : k < 256
        · have hk1 : (k : Int) < 256 := by omega
          have hix := fun W => idx_arr (usedV l).toArray k hk2 (.bool (decide ((k : Int) ∈ l))) (by simpa using usedV_get l k hk2) W
          have HM := Lib.hid (madeTo_succ l k)
          rw [← ho.out] at HM
          have hdd : decide ((k : Int) ∈ l) = true ∨ decide ((k : Int) ∈ l) = false := by cases decide ((k : Int) ∈ l) <;> simp
          rcases hdd with hdd | hdd
          · have HN := Lib.hid (show madeTo l (k + 1) = o ++ [entK k] by rw [HM.out, if_pos (by simpa using hdd)])
            rw [hdd] at hix
            clear HM hdd
            generalize (usedV l).toArray = UA at *
            have hw8 : IntKind.u8.wrap (k : Int) = (k : Int) := IntWalk.u8_in _ (by omega)
            go_wp2_with fail
            have rx1 := cell_past (.cells #[.string (S [UInt8.ofNat k, 107]), .string (S [UInt8.ofNat k])] 68) (cell_past (.cells #[.int .u8 (k : Int)] 5) (cell_past (.cells #[.int .u8 (k : Int), .int .u8 107] 5) r0))
            have rx2 := cell_past (.cells #[.string (S [UInt8.ofNat k, 107]), .string (S [UInt8.ofNat k])] 68) (cell_past (.cells #[.int .u8 (k : Int), .int .u8 107] 5) (cell_past (.cells #[.int .u8 (k : Int)] 5) r0))
            go_region_law (first | (refine step_append_own (by rfl) _ _ 41 (by rfl) w1.heap.size 68 i0 (.agg #[.string ByteArray.empty, .string ByteArray.empty]) 2 32 Try.underlying41 hi0 iz0 iz1 iz2 rfl (by decide) _ o.length _ (by rfl) (own_below HO.out (by go_grown)) ⟨wr.heap.size + 1 + 1, 0, none⟩ 1 1 [.string (S [UInt8.ofNat k, 107]), .string (S [UInt8.ofNat k])] (by rfl) (by rfl) (fun j v h => cell_drew (cell_two_at _ _ (by simp) _ _ _ j v h)) (two_oneCell _ _) (by unfold maxLen; omega) (by omega) (by simp; omega) ?_; intro vz wz hownwz hgrowwz hbz; obtain ⟨gz, cz, ez⟩ := own_form hownwz; subst ez; have hfar : ∀ b, b < w1.heap.size → some b ≠ (Value.slice ov o.length oc).ownBlock := (fun b hb e => by have := (HO.out.lt b e.symm).1; omega); have zc := hgrowwz.cell (kept_cell (by go_grown) r0) (hfar _ (by simp; omega)); have zc1 := hgrowwz.cell (kept_cell (by go_grown) r1) (hfar _ (by simp; omega)); have zc2 := hgrowwz.cell (kept_cell (by go_grown) r2) (hfar _ (by simp; omega)); have zfr : ∀ o', wz.frozen? ⟨w.heap.size, o', none⟩ = false := (fun o' => (World.frozen?_of_block (hgrowwz.block w.heap.size (by simp; omega) (hfar _ (by omega)))).trans (kept_frozen (by go_grown) r0 (HFr.out o'))); have zf := zfr 0; have zB := below_grown (HB.out.trans (Below.mono (show Below wr.heap.size wr _ by go_grown) (by omega))) hgrowwz (fun b e => by have := (HO.out.lt b e).1; omega) (by simp; omega); have zs := hgrowwz.size))
            all_goals
              go_wp2_with fail
              exact ⟨⟨k + 1, o ++ [entK k], _, by go_num, by omega, Lib.hid HN.out.symm, World.cell?_setCell_same _ _ _ zc, (World.cell?_setCell_other _ _ _ _ (addr_ne (Or.inr (by decide)))).trans zc1, (World.cell?_setCell_other _ _ _ _ (addr_ne (Or.inr (by decide)))).trans zc2, Lib.hid (fun o' => by rw [World.frozen?_setCell]; exact zfr o'), Lib.hid (by rw [cellsE_snoc, List.length_append, List.length_singleton]; exact ownsRow_setCell_other (a := ⟨w.heap.size, 0, none⟩) hownwz (fun e => by have := (hownwz.lt _ e).1; simp at this; omega) _), Lib.hid (zB.setCell (p := ⟨w.heap.size, 0, none⟩) (Nat.le_refl _) _), by simp at zs ⊢; omega⟩, by simp [intOf]; omega⟩
          · have HN := Lib.hid (show madeTo l (k + 1) = o by rw [HM.out, if_neg (by simpa using hdd)])
            rw [hdd] at hix
            clear HM hdd
            go_wp2_with fail
            exact ⟨⟨k + 1, o, _, by go_num, by omega, Lib.hid HN.out.symm, r0, r1, r2, HFr, HO, HB, hzr⟩, by simp [intOf]; omega⟩
        · obtain rfl : k = 256 := by omega
          go_wp2_with fail
          go_ret
          refine ⟨rfl, ?_, HB.out⟩
          have hoe : o = madeL l := ho.out
          subst hoe
          refine ⟨⟨ov, oc, r0, ?_⟩, r1, r2, HFr.out 1, HFr.out 2, World.ownsRow_nil wr wr.heap.size 3 1, by omega, Nat.le_refl _⟩
          by_cases hl0 : madeL l = []
          · exact Or.inl hl0
          · right
            obtain ⟨g, hg, h1, h2, h3⟩ := own_at HO.out (List.length_pos_iff.2 hl0)
            refine ⟨g, 0, hg, h2, by omega, fun i hi j x hx => ?_⟩
            rw [Nat.zero_add]
            exact h3 _ _ (cellsE_get _ i hi j x hx)

end Go.Proofs.Ythcjcmalfnfjkaa
