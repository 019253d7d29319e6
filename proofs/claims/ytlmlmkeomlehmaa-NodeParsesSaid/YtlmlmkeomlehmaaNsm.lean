/-
  The walk of law17's same: two nodes of one content are the same.
-/
import Derived.Test.YtlmlmkeomlehmaaNpw
import Derived.Test.YtlmlmkeomlehmaaNdc
namespace Go.Proofs.Ytlmlmkeomlehmaa
open Go.RowKit
attribute [local go_sem ↓] Go.wp_at_zero Go.wp_at_succ

theorem upd7_guard (op : BinOp) (x y : Operand) (xs ys : Array Value) (w : World) : (eqGuard op 113 x y (.agg xs) (.agg ys)).run Try.prog w = .ok () w := run_eqGuard_agg w op _ x y xs ys (by kernel_rfl)
theorem upd7_under : Try.prog.underlying 113 = some (.struct (Try.prog.fieldsOf 113)) := by kernel_rfl
theorem upd7_held : Try.prog.stoodInHeld 113 = false := by kernel_rfl
theorem upd7_neq_same (k d : Int) (a b : ByteArray) (w : World) : (binOp .neq 113 (.agg #[.int .u8 k, .string a, .string b, .int .u64 d]) (.agg #[.int .u8 k, .string a, .string b, .int .u64 d])).run Try.prog w = .ok (.bool false) w := by
  rw [run_neq_struct, run_equalIn_agg _ _ _ _ _ upd7_under upd7_held]
  simp [Program.fieldsOf, Try.underlying113, Try.underlying5, Try.underlying9, Try.underlying47, Op.eqFields, go_sem]
theorem chd7_guard (op : BinOp) (x y : Operand) (xs ys : Array Value) (w : World) : (eqGuard op 50 x y (.agg xs) (.agg ys)).run Try.prog w = .ok () w := run_eqGuard_agg w op _ x y xs ys (by kernel_rfl)
theorem chd7_under : Try.prog.underlying 50 = some (.struct (Try.prog.fieldsOf 50)) := by kernel_rfl
theorem chd7_held : Try.prog.stoodInHeld 50 = false := by kernel_rfl
theorem chd7_neq_same (k d e : Int) (a : ByteArray) (w : World) : (binOp .neq 50 (.agg #[.string a, .int .i64 k, .int .u64 d, .int .u32 e]) (.agg #[.string a, .int .i64 k, .int .u64 d, .int .u32 e])).run Try.prog w = .ok (.bool false) w := by
  rw [run_neq_struct, run_equalIn_agg _ _ _ _ _ chd7_under chd7_held]
  simp [Program.fieldsOf, Try.underlying50, Try.underlying3, Try.underlying9, Try.underlying47, Try.underlying48, Op.eqFields, go_sem]

set_option maxRecDepth 100000 in
set_option maxHeartbeats 8000000 in
theorem same17_any (v v2 : Value) (cs : List Chd) (us : List Upd) (w : World) (h : NodeAt w v cs us) (h2 : NodeAt w v2 cs us) (hl : cs.length ≤ 100000) (hu : us.length ≤ 100000) :
    Calls Try.prog 24 #[v, v2] w fun e w' => e = .returned (.bool true) ∧ Below w.heap.size w w' := by
  obtain ⟨a, b, x, y, rfl, h1, h3⟩ := h
  obtain ⟨a2, b2, x2, y2, rfl, h4, h5⟩ := h2
  have HC := Lib.hid h1
  have HU := Lib.hid h3
  have HC2 := Lib.hid h4
  have HU2 := Lib.hid h5
  have hB := Below.refl w.heap.size w
  have hneq := fun k d a b w => upd7_neq_same k d a b w
  have hgrd := fun op x y xs ys w => upd7_guard op x y xs ys w
  have cneq := fun k d e a w => chd7_neq_same k d e a w
  have cgrd := fun op x y xs ys w => chd7_guard op x y xs ys w
  clear h1 h3 h4 h5
  go_enter Try.func24, Try.ntmps24
  go_upto_region 1 with (fail)
  obtain ⟨W0, hW_W0⟩ : ∃ W0, W0 = ((w.alloc (.cells #[.slice a cs.length x, .slice b us.length y] 31)).alloc (.cells #[.slice a2 cs.length x2, .slice b2 us.length y2] 35)) := ⟨_, rfl⟩
  rw [← hW_W0]
  have hX_W0 : Below w.heap.size w W0 := by rw [hW_W0]; go_grown
  have n0 : W0.cell? ⟨w.heap.size, 0, none⟩ = some (.slice a cs.length x) := by rw [hW_W0, World.cell?_alloc_past _ _ _ (by simp <;> omega), World.cell?_alloc_at _ _ _ _ (by simp)]; rfl
  have n1 : W0.cell? ⟨w.heap.size, 1, none⟩ = some (.slice b us.length y) := by rw [hW_W0, World.cell?_alloc_past _ _ _ (by simp <;> omega), World.cell?_alloc_at _ _ _ _ (by simp)]; rfl
  have r0 : W0.cell? ⟨w.heap.size + 1, 0, none⟩ = some (.slice a2 cs.length x2) := by rw [hW_W0, World.cell?_alloc_at _ _ _ _ (by simp)]; rfl
  have r1 : W0.cell? ⟨w.heap.size + 1, 1, none⟩ = some (.slice b2 us.length y2) := by rw [hW_W0, World.cell?_alloc_at _ _ _ _ (by simp)]; rfl
  clear hW_W0
  have hz_W0 := hX_W0.size
  replace HC := Lib.hid (HC.out.kept hX_W0 (Nat.le_refl _))
  replace HU := Lib.hid (HU.out.kept hX_W0 (Nat.le_refl _))
  replace HC2 := Lib.hid (HC2.out.kept hX_W0 (Nat.le_refl _))
  replace HU2 := Lib.hid (HU2.out.kept hX_W0 (Nat.le_refl _))
  replace hB := hB.trans (hX_W0.mono hB.size)
  clear hX_W0
  have HZ0 := Lib.hid (World.block_lt_of_cell? W0 _ n0)
  go_wp2_with fail
  refine (list_next b us.length y us W0 rfl (BoxU.mk ⟨_, rfl, HU.out⟩) (by omega)).mono ?_
  rintro e w6 ⟨⟨a6, c6, rfl, hown⟩, hb6⟩
  have HL := Lib.hid (SlU.of_own hown).2
  have k0 := kept_cell hb6 n0
  have k1 := kept_cell hb6 n1
  have k2 := kept_cell hb6 r0
  have k3 := kept_cell hb6 r1
  have HC6 := Lib.hid (HC.out.kept hb6 (Nat.le_refl _))
  have HC26 := Lib.hid (HC2.out.kept hb6 (Nat.le_refl _))
  have HU26 := Lib.hid (HU2.out.kept hb6 (Nat.le_refl _))
  have HB6 := Lib.hid (hB.trans (hb6.mono hB.size))
  clear hown hb6 n0 n1 r0 r1 HC HC2 HU HU2 hB HZ0
  go_wp2_with fail
  go_loopw [31] (fun i wr => ∃ j : Nat, i = .int .i64 j ∧ j ≤ cs.length ∧ Below w6.heap.size w6 wr) (fun i _ => cs.length - (intOf i).toNat)
  case atStart => exact ⟨0, rfl, Nat.zero_le _, Below.refl _ _⟩
  case round =>
    obtain ⟨j, rfl, hj, hX⟩ := hrel
    have hj0 : (0 : Int) ≤ (j : Int) := Int.natCast_nonneg _
    by_cases hjl : j < cs.length
    · have hj1 : (j : Int) < (cs.length : Int) := by omega
      replace k2 := kept_cell hX k2
      replace HC6 := Lib.hid (HC6.out.kept hX (Nat.le_refl _))
      replace HC26 := Lib.hid (HC26.out.kept hX (Nat.le_refl _))
      obtain ⟨b3, off, rfl, hb, q0, q1, q2, q3⟩ := HC6.out.at.cells4C j hjl
      obtain ⟨b4, off2, rfl, hb2, r0, r1, r2, r3⟩ := HC26.out.at.cells4C j hjl
      clear k0 k1 k3
      generalize cs[j] = u at *
      go_upto_region 7 with (fail)
      obtain ⟨W1, hW_W1⟩ : ∃ W1, W1 = (wr.alloc (.cells #[.string (S u.low), .int .i64 u.addr, .int .u64 u.gen, .int .u32 u.sum] 100)) := ⟨_, rfl⟩
      rw [← hW_W1]
      have hX_W1 : Below wr.heap.size wr W1 := by rw [hW_W1]; go_grown
      have c0 : W1.cell? ⟨wr.heap.size, 0, none⟩ = some (.string (S u.low)) := by rw [hW_W1, World.cell?_alloc_at _ _ _ _ (by simp)]; rfl
      have c1 : W1.cell? ⟨wr.heap.size, 1, none⟩ = some (.int .i64 u.addr) := by rw [hW_W1, World.cell?_alloc_at _ _ _ _ (by simp)]; rfl
      have c2 : W1.cell? ⟨wr.heap.size, 2, none⟩ = some (.int .u64 u.gen) := by rw [hW_W1, World.cell?_alloc_at _ _ _ _ (by simp)]; rfl
      have c3 : W1.cell? ⟨wr.heap.size, 3, none⟩ = some (.int .u32 u.sum) := by rw [hW_W1, World.cell?_alloc_at _ _ _ _ (by simp)]; rfl
      clear hW_W1
      have hz_W1 := hX_W1.size
      replace k2 := kept_cell hX_W1 k2
      replace r0 := kept_cell hX_W1 r0
      replace r1 := kept_cell hX_W1 r1
      replace r2 := kept_cell hX_W1 r2
      replace r3 := kept_cell hX_W1 r3
      replace hX := hX.trans (hX_W1.mono hX.size)
      clear hX_W1
      clear q0 q1 q2 q3
      refine WQ.region (C := fun w' => Below W1.heap.size W1 w') (by kernel_rfl) (by kernel_rfl) (below_drew' (Below.refl _ _)) ?_
      refine WQ.want (by rfl) (fun K hK => ?_)
      refine ⟨.pointer (some ⟨wr.heap.size, 0, none⟩), fun w' hw' => ?_, hK _ ?_⟩
      · have hq' := hw'
        go_simp
      clear hK K
      (try simp only [Act.put, List.setIfInBounds_toArray, List.set_cons_zero, List.set_cons_succ])
      refine WQ.want (by rfl) (fun K hK => ?_)
      refine ⟨.string (S u.low), fun w' hw' => ?_, hK _ ?_⟩
      · have hq' := hw'
        have z0 := kept_cell hw' c0; have z1 := kept_cell hw' c1; have z2 := kept_cell hw' c2; have z3 := kept_cell hw' c3; have z4 := kept_cell hw' k2; have z5 := kept_cell hw' r0; have z6 := kept_cell hw' r1; have z7 := kept_cell hw' r2; have z8 := kept_cell hw' r3; go_simp
      clear hK K
      (try simp only [Act.put, List.setIfInBounds_toArray, List.set_cons_zero, List.set_cons_succ])
      refine WQ.want (by rfl) (fun K hK => ?_)
      refine ⟨.pointer (some ⟨wr.heap.size, 1, none⟩), fun w' hw' => ?_, hK _ ?_⟩
      · have hq' := hw'
        go_simp
      clear hK K
      (try simp only [Act.put, List.setIfInBounds_toArray, List.set_cons_zero, List.set_cons_succ])
      refine WQ.want (by rfl) (fun K hK => ?_)
      refine ⟨.pointer (some ⟨wr.heap.size, 1, none⟩), fun w' hw' => ?_, hK _ ?_⟩
      · have hq' := hw'
        go_simp
      clear hK K
      (try simp only [Act.put, List.setIfInBounds_toArray, List.set_cons_zero, List.set_cons_succ])
      refine WQ.want (by rfl) (fun K hK => ?_)
      refine ⟨.int .i64 u.addr, fun w' hw' => ?_, hK _ ?_⟩
      · have hq' := hw'
        have z0 := kept_cell hw' c0; have z1 := kept_cell hw' c1; have z2 := kept_cell hw' c2; have z3 := kept_cell hw' c3; have z4 := kept_cell hw' k2; have z5 := kept_cell hw' r0; have z6 := kept_cell hw' r1; have z7 := kept_cell hw' r2; have z8 := kept_cell hw' r3; go_simp
      clear hK K
      (try simp only [Act.put, List.setIfInBounds_toArray, List.set_cons_zero, List.set_cons_succ])
      refine WQ.want (by rfl) (fun K hK => ?_)
      refine ⟨.pointer (some ⟨wr.heap.size, 1, none⟩), fun w' hw' => ?_, hK _ ?_⟩
      · have hq' := hw'
        go_simp
      clear hK K
      (try simp only [Act.put, List.setIfInBounds_toArray, List.set_cons_zero, List.set_cons_succ])
      refine WQ.want (by rfl) (fun K hK => ?_)
      refine ⟨.pointer (some ⟨wr.heap.size, 2, none⟩), fun w' hw' => ?_, hK _ ?_⟩
      · have hq' := hw'
        go_simp
      clear hK K
      (try simp only [Act.put, List.setIfInBounds_toArray, List.set_cons_zero, List.set_cons_succ])
      refine WQ.want (by rfl) (fun K hK => ?_)
      refine ⟨.int .u64 u.gen, fun w' hw' => ?_, hK _ ?_⟩
      · have hq' := hw'
        have z0 := kept_cell hw' c0; have z1 := kept_cell hw' c1; have z2 := kept_cell hw' c2; have z3 := kept_cell hw' c3; have z4 := kept_cell hw' k2; have z5 := kept_cell hw' r0; have z6 := kept_cell hw' r1; have z7 := kept_cell hw' r2; have z8 := kept_cell hw' r3; go_simp
      clear hK K
      (try simp only [Act.put, List.setIfInBounds_toArray, List.set_cons_zero, List.set_cons_succ])
      refine WQ.want (by rfl) (fun K hK => ?_)
      refine ⟨.pointer (some ⟨wr.heap.size, 1, none⟩), fun w' hw' => ?_, hK _ ?_⟩
      · have hq' := hw'
        go_simp
      clear hK K
      (try simp only [Act.put, List.setIfInBounds_toArray, List.set_cons_zero, List.set_cons_succ])
      refine WQ.want (by rfl) (fun K hK => ?_)
      refine ⟨.pointer (some ⟨wr.heap.size, 3, none⟩), fun w' hw' => ?_, hK _ ?_⟩
      · have hq' := hw'
        go_simp
      clear hK K
      (try simp only [Act.put, List.setIfInBounds_toArray, List.set_cons_zero, List.set_cons_succ])
      refine WQ.want (by rfl) (fun K hK => ?_)
      refine ⟨.int .u32 u.sum, fun w' hw' => ?_, hK _ ?_⟩
      · have hq' := hw'
        have z0 := kept_cell hw' c0; have z1 := kept_cell hw' c1; have z2 := kept_cell hw' c2; have z3 := kept_cell hw' c3; have z4 := kept_cell hw' k2; have z5 := kept_cell hw' r0; have z6 := kept_cell hw' r1; have z7 := kept_cell hw' r2; have z8 := kept_cell hw' r3; go_simp
      clear hK K
      (try simp only [Act.put, List.setIfInBounds_toArray, List.set_cons_zero, List.set_cons_succ])
      refine WQ.want (by rfl) (fun K hK => ?_)
      refine ⟨.agg #[.string (S u.low), .int .i64 u.addr, .int .u64 u.gen, .int .u32 u.sum], fun w' hw' => ?_, hK _ ?_⟩
      · have hq' := hw'
        go_simp
      clear hK K
      (try simp only [Act.put, List.setIfInBounds_toArray, List.set_cons_zero, List.set_cons_succ])
      refine WQ.want (by rfl) (fun K hK => ?_)
      refine ⟨.pointer (some ⟨w.heap.size + 1, 0, none⟩), fun w' hw' => ?_, hK _ ?_⟩
      · have hq' := hw'
        go_simp
      clear hK K
      (try simp only [Act.put, List.setIfInBounds_toArray, List.set_cons_zero, List.set_cons_succ])
      refine WQ.want (by rfl) (fun K hK => ?_)
      refine ⟨.slice (some ⟨b4, off2, none⟩) cs.length x2, fun w' hw' => ?_, hK _ ?_⟩
      · have hq' := hw'
        have z0 := kept_cell hw' c0; have z1 := kept_cell hw' c1; have z2 := kept_cell hw' c2; have z3 := kept_cell hw' c3; have z4 := kept_cell hw' k2; have z5 := kept_cell hw' r0; have z6 := kept_cell hw' r1; have z7 := kept_cell hw' r2; have z8 := kept_cell hw' r3; go_simp
      clear hK K
      (try simp only [Act.put, List.setIfInBounds_toArray, List.set_cons_zero, List.set_cons_succ])
      refine WQ.want (by rfl) (fun K hK => ?_)
      refine ⟨.int .i64 j, fun w' hw' => ?_, hK _ ?_⟩
      · have hq' := hw'
        go_simp
      clear hK K
      (try simp only [Act.put, List.setIfInBounds_toArray, List.set_cons_zero, List.set_cons_succ])
      refine WQ.want (by rfl) (fun K hK => ?_)
      refine ⟨.pointer (some ⟨b4, off2 + j * 4, none⟩), fun w' hw' => ?_, hK _ ?_⟩
      · have hq' := hw'
        go_simp
      clear hK K
      (try simp only [Act.put, List.setIfInBounds_toArray, List.set_cons_zero, List.set_cons_succ])
      refine WQ.want (by rfl) (fun K hK => ?_)
      refine ⟨.agg #[.string (S u.low), .int .i64 u.addr, .int .u64 u.gen, .int .u32 u.sum], fun w' hw' => ?_, hK _ ?_⟩
      · have hq' := hw'
        have z0 := kept_cell hw' c0; have z1 := kept_cell hw' c1; have z2 := kept_cell hw' c2; have z3 := kept_cell hw' c3; have z4 := kept_cell hw' k2; have z5 := kept_cell hw' r0; have z6 := kept_cell hw' r1; have z7 := kept_cell hw' r2; have z8 := kept_cell hw' r3; go_simp
      clear hK K
      (try simp only [Act.put, List.setIfInBounds_toArray, List.set_cons_zero, List.set_cons_succ])
      refine WQ.want (by rfl) (fun K hK => ?_)
      refine ⟨.bool false, fun w' hw' => ?_, hK _ ?_⟩
      · have hq' := hw'
        go_simp
      clear hK K
      (try simp only [Act.put, List.setIfInBounds_toArray, List.set_cons_zero, List.set_cons_succ])
      refine WQ.done ?_
      rintro w2 hX2
      replace k2 := kept_cell hX2 k2
      replace r0 := kept_cell hX2 r0
      replace r1 := kept_cell hX2 r1
      replace r2 := kept_cell hX2 r2
      replace r3 := kept_cell hX2 r3
      replace c0 := kept_cell hX2 c0
      replace c1 := kept_cell hX2 c1
      replace c2 := kept_cell hX2 c2
      replace c3 := kept_cell hX2 c3
      replace hX := hX.trans (hX2.mono hX.size)
      clear hX2
      go_wp2_with fail
      go_roundw
      (case rel => exact ⟨j + 1, by go_num, by omega, hX⟩)
      (case measure => first | (simp [intOf]; done) | (simp [intOf]; omega))
    · obtain rfl : j = cs.length := by omega
      replace k3 := kept_cell hX k3
      replace HL := Lib.hid (HL.out.kept hX (Nat.le_refl _))
      replace HU26 := Lib.hid (HU26.out.kept hX (Nat.le_refl _))
      have HB7 := Lib.hid (HB6.out.trans (hX.mono HB6.out.size))
      clear HB6 HC6 HC26 k0 k1 k2 hX
      go_wp2_with fail
      generalize wr = w7 at *
      have hB := Below.refl w7.heap.size w7
      go_loopw [57] (fun i wr' => ∃ j : Nat, i = .int .i64 j ∧ j ≤ us.length ∧ Below w7.heap.size w7 wr') (fun i _ => us.length - (intOf i).toNat)
      case atStart => exact ⟨0, rfl, Nat.zero_le _, Below.refl _ _⟩
      case round =>
        obtain ⟨j, rfl, hj, hY⟩ := hrel
        have hj0 : (0 : Int) ≤ (j : Int) := Int.natCast_nonneg _
        by_cases hjl : j < us.length
        · have hj1 : (j : Int) < (us.length : Int) := by omega
          replace k3 := kept_cell hY k3
          replace HL := Lib.hid (HL.out.kept hY (Nat.le_refl _))
          replace HU26 := Lib.hid (HU26.out.kept hY (Nat.le_refl _))
          obtain ⟨b3, off, rfl, hb, q0, q1, q2, q3⟩ := HL.out.cells4 j hjl
          obtain ⟨b4, off2, rfl, hb2, r0, r1, r2, r3⟩ := HU26.out.cells4 j hjl
          generalize us[j] = u at *
          go_upto_region 13 with (fail)
          obtain ⟨W1, hW_W1⟩ : ∃ W1, W1 = (wr.alloc (.cells #[.int .u8 u.kind, .string (S u.key), .string (S u.val), .int .u64 u.delta] 67)) := ⟨_, rfl⟩
          rw [← hW_W1]
          have hX_W1 : Below wr.heap.size wr W1 := by rw [hW_W1]; go_grown
          have c0 : W1.cell? ⟨wr.heap.size, 0, none⟩ = some (.int .u8 u.kind) := by rw [hW_W1, World.cell?_alloc_at _ _ _ _ (by simp)]; rfl
          have c1 : W1.cell? ⟨wr.heap.size, 1, none⟩ = some (.string (S u.key)) := by rw [hW_W1, World.cell?_alloc_at _ _ _ _ (by simp)]; rfl
          have c2 : W1.cell? ⟨wr.heap.size, 2, none⟩ = some (.string (S u.val)) := by rw [hW_W1, World.cell?_alloc_at _ _ _ _ (by simp)]; rfl
          have c3 : W1.cell? ⟨wr.heap.size, 3, none⟩ = some (.int .u64 u.delta) := by rw [hW_W1, World.cell?_alloc_at _ _ _ _ (by simp)]; rfl
          clear hW_W1
          have hz_W1 := hX_W1.size
          replace k3 := kept_cell hX_W1 k3
          replace r0 := kept_cell hX_W1 r0
          replace r1 := kept_cell hX_W1 r1
          replace r2 := kept_cell hX_W1 r2
          replace r3 := kept_cell hX_W1 r3
          replace hY := hY.trans (hX_W1.mono hY.size)
          clear hX_W1
          clear q0 q1 q2 q3
          refine WQ.region (C := fun w' => Below W1.heap.size W1 w') (by kernel_rfl) (by kernel_rfl) (below_drew' (Below.refl _ _)) ?_
          refine WQ.want (by rfl) (fun K hK => ?_)
          refine ⟨.pointer (some ⟨wr.heap.size, 0, none⟩), fun w' hw' => ?_, hK _ ?_⟩
          · have hq' := hw'
            go_simp
          clear hK K
          (try simp only [Act.put, List.setIfInBounds_toArray, List.set_cons_zero, List.set_cons_succ])
          refine WQ.want (by rfl) (fun K hK => ?_)
          refine ⟨.int .u8 u.kind, fun w' hw' => ?_, hK _ ?_⟩
          · have hq' := hw'
            have z0 := kept_cell hw' c0; have z1 := kept_cell hw' c1; have z2 := kept_cell hw' c2; have z3 := kept_cell hw' c3; have z4 := kept_cell hw' k3; have z5 := kept_cell hw' r0; have z6 := kept_cell hw' r1; have z7 := kept_cell hw' r2; have z8 := kept_cell hw' r3; go_simp
          clear hK K
          (try simp only [Act.put, List.setIfInBounds_toArray, List.set_cons_zero, List.set_cons_succ])
          refine WQ.want (by rfl) (fun K hK => ?_)
          refine ⟨.pointer (some ⟨wr.heap.size, 1, none⟩), fun w' hw' => ?_, hK _ ?_⟩
          · have hq' := hw'
            go_simp
          clear hK K
          (try simp only [Act.put, List.setIfInBounds_toArray, List.set_cons_zero, List.set_cons_succ])
          refine WQ.want (by rfl) (fun K hK => ?_)
          refine ⟨.string (S u.key), fun w' hw' => ?_, hK _ ?_⟩
          · have hq' := hw'
            have z0 := kept_cell hw' c0; have z1 := kept_cell hw' c1; have z2 := kept_cell hw' c2; have z3 := kept_cell hw' c3; have z4 := kept_cell hw' k3; have z5 := kept_cell hw' r0; have z6 := kept_cell hw' r1; have z7 := kept_cell hw' r2; have z8 := kept_cell hw' r3; go_simp
          clear hK K
          (try simp only [Act.put, List.setIfInBounds_toArray, List.set_cons_zero, List.set_cons_succ])
          refine WQ.want (by rfl) (fun K hK => ?_)
          refine ⟨.pointer (some ⟨wr.heap.size, 2, none⟩), fun w' hw' => ?_, hK _ ?_⟩
          · have hq' := hw'
            go_simp
          clear hK K
          (try simp only [Act.put, List.setIfInBounds_toArray, List.set_cons_zero, List.set_cons_succ])
          refine WQ.want (by rfl) (fun K hK => ?_)
          refine ⟨.string (S u.val), fun w' hw' => ?_, hK _ ?_⟩
          · have hq' := hw'
            have z0 := kept_cell hw' c0; have z1 := kept_cell hw' c1; have z2 := kept_cell hw' c2; have z3 := kept_cell hw' c3; have z4 := kept_cell hw' k3; have z5 := kept_cell hw' r0; have z6 := kept_cell hw' r1; have z7 := kept_cell hw' r2; have z8 := kept_cell hw' r3; go_simp
          clear hK K
          (try simp only [Act.put, List.setIfInBounds_toArray, List.set_cons_zero, List.set_cons_succ])
          refine WQ.want (by rfl) (fun K hK => ?_)
          refine ⟨.pointer (some ⟨wr.heap.size, 3, none⟩), fun w' hw' => ?_, hK _ ?_⟩
          · have hq' := hw'
            go_simp
          clear hK K
          (try simp only [Act.put, List.setIfInBounds_toArray, List.set_cons_zero, List.set_cons_succ])
          refine WQ.want (by rfl) (fun K hK => ?_)
          refine ⟨.int .u64 u.delta, fun w' hw' => ?_, hK _ ?_⟩
          · have hq' := hw'
            have z0 := kept_cell hw' c0; have z1 := kept_cell hw' c1; have z2 := kept_cell hw' c2; have z3 := kept_cell hw' c3; have z4 := kept_cell hw' k3; have z5 := kept_cell hw' r0; have z6 := kept_cell hw' r1; have z7 := kept_cell hw' r2; have z8 := kept_cell hw' r3; go_simp
          clear hK K
          (try simp only [Act.put, List.setIfInBounds_toArray, List.set_cons_zero, List.set_cons_succ])
          refine WQ.want (by rfl) (fun K hK => ?_)
          refine ⟨.agg #[.int .u8 u.kind, .string (S u.key), .string (S u.val), .int .u64 u.delta], fun w' hw' => ?_, hK _ ?_⟩
          · have hq' := hw'
            go_simp
          clear hK K
          (try simp only [Act.put, List.setIfInBounds_toArray, List.set_cons_zero, List.set_cons_succ])
          refine WQ.want (by rfl) (fun K hK => ?_)
          refine ⟨.pointer (some ⟨w.heap.size + 1, 1, none⟩), fun w' hw' => ?_, hK _ ?_⟩
          · have hq' := hw'
            go_simp
          clear hK K
          (try simp only [Act.put, List.setIfInBounds_toArray, List.set_cons_zero, List.set_cons_succ])
          refine WQ.want (by rfl) (fun K hK => ?_)
          refine ⟨.slice (some ⟨b4, off2, none⟩) us.length y2, fun w' hw' => ?_, hK _ ?_⟩
          · have hq' := hw'
            have z0 := kept_cell hw' c0; have z1 := kept_cell hw' c1; have z2 := kept_cell hw' c2; have z3 := kept_cell hw' c3; have z4 := kept_cell hw' k3; have z5 := kept_cell hw' r0; have z6 := kept_cell hw' r1; have z7 := kept_cell hw' r2; have z8 := kept_cell hw' r3; go_simp
          clear hK K
          (try simp only [Act.put, List.setIfInBounds_toArray, List.set_cons_zero, List.set_cons_succ])
          refine WQ.want (by rfl) (fun K hK => ?_)
          refine ⟨.int .i64 j, fun w' hw' => ?_, hK _ ?_⟩
          · have hq' := hw'
            go_simp
          clear hK K
          (try simp only [Act.put, List.setIfInBounds_toArray, List.set_cons_zero, List.set_cons_succ])
          refine WQ.want (by rfl) (fun K hK => ?_)
          refine ⟨.pointer (some ⟨b4, off2 + j * 4, none⟩), fun w' hw' => ?_, hK _ ?_⟩
          · have hq' := hw'
            go_simp
          clear hK K
          (try simp only [Act.put, List.setIfInBounds_toArray, List.set_cons_zero, List.set_cons_succ])
          refine WQ.want (by rfl) (fun K hK => ?_)
          refine ⟨.agg #[.int .u8 u.kind, .string (S u.key), .string (S u.val), .int .u64 u.delta], fun w' hw' => ?_, hK _ ?_⟩
          · have hq' := hw'
            have z0 := kept_cell hw' c0; have z1 := kept_cell hw' c1; have z2 := kept_cell hw' c2; have z3 := kept_cell hw' c3; have z4 := kept_cell hw' k3; have z5 := kept_cell hw' r0; have z6 := kept_cell hw' r1; have z7 := kept_cell hw' r2; have z8 := kept_cell hw' r3; go_simp
          clear hK K
          (try simp only [Act.put, List.setIfInBounds_toArray, List.set_cons_zero, List.set_cons_succ])
          refine WQ.want (by rfl) (fun K hK => ?_)
          refine ⟨.bool false, fun w' hw' => ?_, hK _ ?_⟩
          · have hq' := hw'
            go_simp
          clear hK K
          (try simp only [Act.put, List.setIfInBounds_toArray, List.set_cons_zero, List.set_cons_succ])
          refine WQ.done ?_
          rintro w2 hX2
          replace k3 := kept_cell hX2 k3
          replace r0 := kept_cell hX2 r0
          replace r1 := kept_cell hX2 r1
          replace r2 := kept_cell hX2 r2
          replace r3 := kept_cell hX2 r3
          replace c0 := kept_cell hX2 c0
          replace c1 := kept_cell hX2 c1
          replace c2 := kept_cell hX2 c2
          replace c3 := kept_cell hX2 c3
          replace hY := hY.trans (hX2.mono hY.size)
          clear hX2
          go_wp2_with fail
          go_roundw
          (case rel => exact ⟨j + 1, by go_num, by omega, hY⟩)
          (case measure => first | (simp [intOf]; done) | (simp [intOf]; omega))
        · obtain rfl : j = us.length := by omega
          go_wp2_with fail
          go_ret
          exact ⟨rfl, HB7.out.trans (hY.mono HB7.out.size)⟩

end Go.Proofs.Ytlmlmkeomlehmaa
