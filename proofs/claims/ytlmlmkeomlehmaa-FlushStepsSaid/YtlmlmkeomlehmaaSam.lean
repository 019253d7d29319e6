/-
  The walks of same and equal.
-/
import Derived.Test.YtlmlmkeomlehmaaOfa
import Derived.Test.YtlmlmkeomlehmaaFap
namespace Go.Proofs.Ytlmlmkeomlehmaa
open Go.RowKit
attribute [local go_sem ↓] Go.wp_at_zero Go.wp_at_succ

theorem upd2_guard (op : BinOp) (x y : Operand) (xs ys : Array Value) (w : World) : (eqGuard op 113 x y (.agg xs) (.agg ys)).run Try.prog w = .ok () w := run_eqGuard_agg w op _ x y xs ys (by kernel_rfl)
theorem upd2_under : Try.prog.underlying 113 = some (.struct (Try.prog.fieldsOf 113)) := by kernel_rfl
theorem upd2_held : Try.prog.stoodInHeld 113 = false := by kernel_rfl
theorem upd2_neq_same (k d : Int) (a b : ByteArray) (w : World) : (binOp .neq 113 (.agg #[.int .u8 k, .string a, .string b, .int .u64 d]) (.agg #[.int .u8 k, .string a, .string b, .int .u64 d])).run Try.prog w = .ok (.bool false) w := by
  rw [run_neq_struct, run_equalIn_agg _ _ _ _ _ upd2_under upd2_held]
  simp [Program.fieldsOf, Try.underlying113, Try.underlying5, Try.underlying9, Try.underlying47, Op.eqFields, go_sem]

set_option maxRecDepth 100000 in
set_option maxHeartbeats 4000000 in
theorem same20_any (a : Option Addr) (n c : Nat) (a2 : Option Addr) (c2 : Nat) (l : List Upd) (w : World) (hn : n = l.length) (h1 : SlU w (.slice a n c) l) (h2 : SlU w (.slice a2 n c2) l) (hl : l.length ≤ 100000) :
    Calls Try.prog 34 #[.slice a n c, .slice a2 n c2] w fun e w' => e = .returned (.bool true) ∧ Below w.heap.size w w' := by
  have H1 := Lib.hid h1
  have H2 := Lib.hid h2
  have HN := Lib.hid hn
  have hn1 : n ≤ 100000 := by omega
  clear h1 h2 hn hl
  have hneq := fun k d a b w => upd2_neq_same k d a b w
  have hgrd := fun op x y xs ys w => upd2_guard op x y xs ys w
  go_enter Try.func34, Try.ntmps34
  go_wp2_with fail
  go_loopw [14] (fun i wr => ∃ j : Nat, i = .int .i64 j ∧ j ≤ n ∧ Below w.heap.size w wr) (fun i _ => n - (intOf i).toNat)
  case atStart => exact ⟨0, rfl, Nat.zero_le _, Below.refl _ _⟩
  case round =>
    obtain ⟨j, rfl, hj, hB⟩ := hrel
    have hj0 : (0 : Int) ≤ (j : Int) := Int.natCast_nonneg _
    by_cases hjn : j < n
    · have hj1 : (j : Int) < (n : Int) := by omega
      have hjl : j < l.length := by have := HN.out; omega
      obtain ⟨b, off, rfl, hb, q0, q1, q2, q3⟩ := (H1.out.kept hB (Nat.le_refl _)).cells4 j hjl
      obtain ⟨b2, off2, rfl, hb2, r0, r1, r2, r3⟩ := (H2.out.kept hB (Nat.le_refl _)).cells4 j hjl
      generalize l[j] = u at *
      go_upto_region 6 with (fail)
      obtain ⟨W1, hW_W1⟩ : ∃ W1, W1 = (wr.alloc (.cells #[.int .u8 u.kind, .string (S u.key), .string (S u.val), .int .u64 u.delta] 67)) := ⟨_, rfl⟩
      rw [← hW_W1]
      have hX_W1 : Below wr.heap.size wr W1 := by rw [hW_W1]; go_grown
      have u0 : W1.cell? ⟨wr.heap.size, 0, none⟩ = some (.int .u8 u.kind) := by rw [hW_W1, World.cell?_alloc_at _ _ _ _ (by simp)]; rfl
      have u1 : W1.cell? ⟨wr.heap.size, 1, none⟩ = some (.string (S u.key)) := by rw [hW_W1, World.cell?_alloc_at _ _ _ _ (by simp)]; rfl
      have u2 : W1.cell? ⟨wr.heap.size, 2, none⟩ = some (.string (S u.val)) := by rw [hW_W1, World.cell?_alloc_at _ _ _ _ (by simp)]; rfl
      have u3 : W1.cell? ⟨wr.heap.size, 3, none⟩ = some (.int .u64 u.delta) := by rw [hW_W1, World.cell?_alloc_at _ _ _ _ (by simp)]; rfl
      clear hW_W1
      have hz_W1 := hX_W1.size
      replace r0 := kept_cell hX_W1 r0
      replace r1 := kept_cell hX_W1 r1
      replace r2 := kept_cell hX_W1 r2
      replace r3 := kept_cell hX_W1 r3
      replace hB := hB.trans (hX_W1.mono hB.size)
      clear hX_W1
      clear q0 q1 q2 q3
      refine WQ.region (C := fun w' => Below W1.heap.size W1 w') (by kernel_rfl) (by kernel_rfl) (below_drew' (Below.refl _ _)) ?_
      refine WQ.want (by rfl) (fun K hK => ?_)
      refine ⟨.pointer (some ⟨wr.heap.size, 0, none⟩), fun w' hw' => ?_, hK _ ?_⟩
      · have hq' := hw'
        go_simp
      clear hK K
      (try simp only [Act.put, List.setIfInBounds_toArray, List.set_cons_zero, List.set_cons_succ])
      refine WQ.want (by rfl) (fun K hK => ?_)
      refine ⟨.int .u8 u.kind, fun w' hw' => ?_, hK _ ?_⟩
      · have hq' := hw'
        have z0 := kept_cell hw' u0; have z1 := kept_cell hw' u1; have z2 := kept_cell hw' u2; have z3 := kept_cell hw' u3; have z4 := kept_cell hw' r0; have z5 := kept_cell hw' r1; have z6 := kept_cell hw' r2; have z7 := kept_cell hw' r3; go_simp
      clear hK K
      (try simp only [Act.put, List.setIfInBounds_toArray, List.set_cons_zero, List.set_cons_succ])
      refine WQ.want (by rfl) (fun K hK => ?_)
      refine ⟨.pointer (some ⟨wr.heap.size, 1, none⟩), fun w' hw' => ?_, hK _ ?_⟩
      · have hq' := hw'
        go_simp
      clear hK K
      (try simp only [Act.put, List.setIfInBounds_toArray, List.set_cons_zero, List.set_cons_succ])
      refine WQ.want (by rfl) (fun K hK => ?_)
      refine ⟨.string (S u.key), fun w' hw' => ?_, hK _ ?_⟩
      · have hq' := hw'
        have z0 := kept_cell hw' u0; have z1 := kept_cell hw' u1; have z2 := kept_cell hw' u2; have z3 := kept_cell hw' u3; have z4 := kept_cell hw' r0; have z5 := kept_cell hw' r1; have z6 := kept_cell hw' r2; have z7 := kept_cell hw' r3; go_simp
      clear hK K
      (try simp only [Act.put, List.setIfInBounds_toArray, List.set_cons_zero, List.set_cons_succ])
      refine WQ.want (by rfl) (fun K hK => ?_)
      refine ⟨.pointer (some ⟨wr.heap.size, 2, none⟩), fun w' hw' => ?_, hK _ ?_⟩
      · have hq' := hw'
        go_simp
      clear hK K
      (try simp only [Act.put, List.setIfInBounds_toArray, List.set_cons_zero, List.set_cons_succ])
      refine WQ.want (by rfl) (fun K hK => ?_)
      refine ⟨.string (S u.val), fun w' hw' => ?_, hK _ ?_⟩
      · have hq' := hw'
        have z0 := kept_cell hw' u0; have z1 := kept_cell hw' u1; have z2 := kept_cell hw' u2; have z3 := kept_cell hw' u3; have z4 := kept_cell hw' r0; have z5 := kept_cell hw' r1; have z6 := kept_cell hw' r2; have z7 := kept_cell hw' r3; go_simp
      clear hK K
      (try simp only [Act.put, List.setIfInBounds_toArray, List.set_cons_zero, List.set_cons_succ])
      refine WQ.want (by rfl) (fun K hK => ?_)
      refine ⟨.pointer (some ⟨wr.heap.size, 3, none⟩), fun w' hw' => ?_, hK _ ?_⟩
      · have hq' := hw'
        go_simp
      clear hK K
      (try simp only [Act.put, List.setIfInBounds_toArray, List.set_cons_zero, List.set_cons_succ])
      refine WQ.want (by rfl) (fun K hK => ?_)
      refine ⟨.int .u64 u.delta, fun w' hw' => ?_, hK _ ?_⟩
      · have hq' := hw'
        have z0 := kept_cell hw' u0; have z1 := kept_cell hw' u1; have z2 := kept_cell hw' u2; have z3 := kept_cell hw' u3; have z4 := kept_cell hw' r0; have z5 := kept_cell hw' r1; have z6 := kept_cell hw' r2; have z7 := kept_cell hw' r3; go_simp
      clear hK K
      (try simp only [Act.put, List.setIfInBounds_toArray, List.set_cons_zero, List.set_cons_succ])
      refine WQ.want (by rfl) (fun K hK => ?_)
      refine ⟨.agg #[.int .u8 u.kind, .string (S u.key), .string (S u.val), .int .u64 u.delta], fun w' hw' => ?_, hK _ ?_⟩
      · have hq' := hw'
        go_simp
      clear hK K
      (try simp only [Act.put, List.setIfInBounds_toArray, List.set_cons_zero, List.set_cons_succ])
      refine WQ.want (by rfl) (fun K hK => ?_)
      refine ⟨.slice (some ⟨b2, off2, none⟩) n c2, fun w' hw' => ?_, hK _ ?_⟩
      · have hq' := hw'
        go_simp
      clear hK K
      (try simp only [Act.put, List.setIfInBounds_toArray, List.set_cons_zero, List.set_cons_succ])
      refine WQ.want (by rfl) (fun K hK => ?_)
      refine ⟨.int .i64 j, fun w' hw' => ?_, hK _ ?_⟩
      · have hq' := hw'
        go_simp
      clear hK K
      (try simp only [Act.put, List.setIfInBounds_toArray, List.set_cons_zero, List.set_cons_succ])
      refine WQ.want (by rfl) (fun K hK => ?_)
      refine ⟨.pointer (some ⟨b2, off2 + j * 4, none⟩), fun w' hw' => ?_, hK _ ?_⟩
      · have hq' := hw'
        go_simp
      clear hK K
      (try simp only [Act.put, List.setIfInBounds_toArray, List.set_cons_zero, List.set_cons_succ])
      refine WQ.want (by rfl) (fun K hK => ?_)
      refine ⟨.agg #[.int .u8 u.kind, .string (S u.key), .string (S u.val), .int .u64 u.delta], fun w' hw' => ?_, hK _ ?_⟩
      · have hq' := hw'
        have z0 := kept_cell hw' u0; have z1 := kept_cell hw' u1; have z2 := kept_cell hw' u2; have z3 := kept_cell hw' u3; have z4 := kept_cell hw' r0; have z5 := kept_cell hw' r1; have z6 := kept_cell hw' r2; have z7 := kept_cell hw' r3; go_simp
      clear hK K
      (try simp only [Act.put, List.setIfInBounds_toArray, List.set_cons_zero, List.set_cons_succ])
      refine WQ.want (by rfl) (fun K hK => ?_)
      refine ⟨.bool false, fun w' hw' => ?_, hK _ ?_⟩
      · have hq' := hw'
        go_simp
      clear hK K
      (try simp only [Act.put, List.setIfInBounds_toArray, List.set_cons_zero, List.set_cons_succ])
      refine WQ.done ?_
      rintro w2 hX2
      replace r0 := kept_cell hX2 r0
      replace r1 := kept_cell hX2 r1
      replace r2 := kept_cell hX2 r2
      replace r3 := kept_cell hX2 r3
      replace u0 := kept_cell hX2 u0
      replace u1 := kept_cell hX2 u1
      replace u2 := kept_cell hX2 u2
      replace u3 := kept_cell hX2 u3
      replace hB := hB.trans (hX2.mono hB.size)
      clear hX2
      go_wp2_with fail
      go_roundw
      (case rel => exact ⟨j + 1, by go_num, by omega, hB⟩)
      (case measure => first | (simp [intOf]; done) | (simp [intOf]; omega))
    · obtain rfl : j = n := by omega
      go_wp2_with fail
      go_ret
      exact ⟨rfl, hB⟩

set_option maxRecDepth 100000 in
set_option maxHeartbeats 8000000 in
theorem equal20_any (v v2 : Value) (cs : List Chd) (us : List Upd) (w : World) (h : NodeAt w v cs us) (h2 : NodeAt w v2 cs us) (hl : cs.length ≤ 1000) (hu : us.length ≤ 1000) :
    Calls Try.prog 38 #[v, v2] w fun e w' => e = .returned (.bool true) ∧ Below w.heap.size w w' := by
  obtain ⟨a, b, x, y, rfl, h1, h3⟩ := h
  obtain ⟨a2, b2, x2, y2, rfl, h4, h5⟩ := h2
  have HC := Lib.hid h1
  have HU := Lib.hid h3
  have HC2 := Lib.hid h4
  have HU2 := Lib.hid h5
  have hB := Below.refl w.heap.size w
  clear h1 h3 h4 h5
  go_enter Try.func38, Try.ntmps38
  go_wp2_with fail
  obtain ⟨W0, hW_W0⟩ : ∃ W0, W0 = ((w.alloc (.cells #[.slice a cs.length x, .slice b us.length y] 31)).alloc (.cells #[.slice a2 cs.length x2, .slice b2 us.length y2] 35)) := ⟨_, rfl⟩
  rw [← hW_W0]
  have hX_W0 : Below w.heap.size w W0 := by rw [hW_W0]; go_grown
  have n0 : W0.cell? ⟨w.heap.size, 0, none⟩ = some (.slice a cs.length x) := by rw [hW_W0, World.cell?_alloc_past _ _ _ (by simp <;> omega), World.cell?_alloc_at _ _ _ _ (by simp)]; rfl
  have n1 : W0.cell? ⟨w.heap.size, 1, none⟩ = some (.slice b us.length y) := by rw [hW_W0, World.cell?_alloc_past _ _ _ (by simp <;> omega), World.cell?_alloc_at _ _ _ _ (by simp)]; rfl
  have r0 : W0.cell? ⟨w.heap.size + 1, 0, none⟩ = some (.slice a2 cs.length x2) := by rw [hW_W0, World.cell?_alloc_at _ _ _ _ (by simp)]; rfl
  have r1 : W0.cell? ⟨w.heap.size + 1, 1, none⟩ = some (.slice b2 us.length y2) := by rw [hW_W0, World.cell?_alloc_at _ _ _ _ (by simp)]; rfl
  clear hW_W0
  have hz_W0 := hX_W0.size
  replace HC := Lib.hid (HC.out.kept hX_W0 (Nat.le_refl _))
  replace HU := Lib.hid (HU.out.kept hX_W0 (Nat.le_refl _))
  replace HC2 := Lib.hid (HC2.out.kept hX_W0 (Nat.le_refl _))
  replace HU2 := Lib.hid (HU2.out.kept hX_W0 (Nat.le_refl _))
  replace hB := hB.trans (hX_W0.mono hB.size)
  clear hX_W0
  have hz0 : w.heap.size < W0.heap.size := World.block_lt_of_cell? W0 _ n0
  have hX0 := Below.refl W0.heap.size W0
  go_region_held3 (fun w' => w'.cell? ⟨w.heap.size, 0, none⟩ = some (.slice a cs.length x) ∧ w'.cell? ⟨w.heap.size, 1, none⟩ = some (.slice b us.length y) ∧ w'.cell? ⟨w.heap.size + 1, 0, none⟩ = some (.slice a2 cs.length x2) ∧ w'.cell? ⟨w.heap.size + 1, 1, none⟩ = some (.slice b2 us.length y2) ∧ Below W0.heap.size W0 w')
    (first | assumption | exact ⟨n0, n1, r0, r1, below_drew' hX0⟩ | exact ⟨k0, k1, k2, k3, k4⟩)
    (first
      | (go_at_call 35; go_must (obtain ⟨g0, g1, g2, g3, g4⟩ := ‹_ ∧ _ ∧ _ ∧ _ ∧ Below W0.heap.size W0 _›; refine (list_next b us.length y us _ rfl (BoxU.mk ⟨_, rfl, HU.out.kept g4 (Nat.le_refl _)⟩) (by omega)).mono ?_; rintro e w6 ⟨⟨a6, c6, rfl, hown⟩, hb6⟩; have k0 := kept_cell hb6 g0; have k1 := kept_cell hb6 g1; have k2 := kept_cell hb6 g2; have k3 := kept_cell hb6 g3; have k4 := g4.trans (hb6.mono g4.size); have HL := Lib.hid (SlU.of_own hown).2; have HB6 := Lib.hid (Below.refl w6.heap.size w6); clear hown))
      | (go_at_call 34; go_must (obtain ⟨g0, g1, g2, g3, g4⟩ := ‹_ ∧ _ ∧ _ ∧ _ ∧ Below W0.heap.size W0 _›; refine (same20_any _ us.length _ b2 y2 us _ rfl HL.out (HU2.out.kept g4 (Nat.le_refl _)) (by omega)).mono ?_; rintro e w7 ⟨rfl, hb7⟩; have k0 := kept_cell hb7 g0; have k1 := kept_cell hb7 g1; have k2 := kept_cell hb7 g2; have k3 := kept_cell hb7 g3; have k4 := g4.trans (hb7.mono g4.size))))
  replace hB := hB.trans (k4.mono hB.size)
  replace HC := Lib.hid (HC.out.kept k4 (Nat.le_refl _))
  replace HC2 := Lib.hid (HC2.out.kept k4 (Nat.le_refl _))
  clear HU HU2 HL HB6 hb6 hb7 hX0
  have hz7 := k4.size
  clear k4
  go_wp2_with fail
  go_loopw [26] (fun i wr => ∃ j : Nat, i = .int .i64 j ∧ j ≤ cs.length ∧ Below w7.heap.size w7 wr) (fun i _ => cs.length - (intOf i).toNat)
  case atStart => exact ⟨0, rfl, Nat.zero_le _, Below.refl _ _⟩
  case round =>
    obtain ⟨j, rfl, hj, hX⟩ := hrel
    have hj0 : (0 : Int) ≤ (j : Int) := Int.natCast_nonneg _
    replace k2 := kept_cell hX k2
    replace HC := Lib.hid (HC.out.kept hX (Nat.le_refl _))
    replace HC2 := Lib.hid (HC2.out.kept hX (Nat.le_refl _))
    replace hB := hB.trans (hX.mono hB.size)
    by_cases hjl : j < cs.length
    · have hj1 : (j : Int) < (cs.length : Int) := by omega
      obtain ⟨b3, off, rfl, hb, q0, q1, q2, q3⟩ := HC.out.at.cells4C j hjl
      obtain ⟨b4, off2, rfl, hb2, r0, r1, r2, r3⟩ := HC2.out.at.cells4C j hjl
      clear n0 n1 k0 k1 k3
      generalize cs[j] = u at *
      go_upto_region 6 with (fail)
      obtain ⟨W1, hW_W1⟩ : ∃ W1, W1 = (wr.alloc (.cells #[.string (S u.low), .int .i64 u.addr, .int .u64 u.gen, .int .u32 u.sum] 100)) := ⟨_, rfl⟩
      rw [← hW_W1]
      have hX_W1 : Below wr.heap.size wr W1 := by rw [hW_W1]; go_grown
      have c0 : W1.cell? ⟨wr.heap.size, 0, none⟩ = some (.string (S u.low)) := by rw [hW_W1, World.cell?_alloc_at _ _ _ _ (by simp)]; rfl
      have c1 : W1.cell? ⟨wr.heap.size, 1, none⟩ = some (.int .i64 u.addr) := by rw [hW_W1, World.cell?_alloc_at _ _ _ _ (by simp)]; rfl
      have c2 : W1.cell? ⟨wr.heap.size, 2, none⟩ = some (.int .u64 u.gen) := by rw [hW_W1, World.cell?_alloc_at _ _ _ _ (by simp)]; rfl
      have c3 : W1.cell? ⟨wr.heap.size, 3, none⟩ = some (.int .u32 u.sum) := by rw [hW_W1, World.cell?_alloc_at _ _ _ _ (by simp)]; rfl
      clear hW_W1
      have hz_W1 := hX_W1.size
      replace k2 := kept_cell hX_W1 k2
      replace r0 := kept_cell hX_W1 r0
      replace r1 := kept_cell hX_W1 r1
      replace hX := hX.trans (hX_W1.mono hX.size)
      clear hX_W1
      clear q0 q1 q2 q3
      refine WQ.region (C := fun w' => Below W1.heap.size W1 w') (by kernel_rfl) (by kernel_rfl) (below_drew' (Below.refl _ _)) ?_
      refine WQ.want (by rfl) (fun K hK => ?_)
      refine ⟨.pointer (some ⟨wr.heap.size, 0, none⟩), fun w' hw' => ?_, hK _ ?_⟩
      · have hq' := hw'
        go_simp
      clear hK K
      (try simp only [Act.put, List.setIfInBounds_toArray, List.set_cons_zero, List.set_cons_succ])
      refine WQ.want (by rfl) (fun K hK => ?_)
      refine ⟨.string (S u.low), fun w' hw' => ?_, hK _ ?_⟩
      · have hq' := hw'
        have z0 := kept_cell hw' c0; have z1 := kept_cell hw' c1; have z2 := kept_cell hw' k2; have z3 := kept_cell hw' r0; have z4 := kept_cell hw' r1; go_simp
      clear hK K
      (try simp only [Act.put, List.setIfInBounds_toArray, List.set_cons_zero, List.set_cons_succ])
      refine WQ.want (by rfl) (fun K hK => ?_)
      refine ⟨.pointer (some ⟨w.heap.size + 1, 0, none⟩), fun w' hw' => ?_, hK _ ?_⟩
      · have hq' := hw'
        go_simp
      clear hK K
      (try simp only [Act.put, List.setIfInBounds_toArray, List.set_cons_zero, List.set_cons_succ])
      refine WQ.want (by rfl) (fun K hK => ?_)
      refine ⟨.slice (some ⟨b4, off2, none⟩) cs.length x2, fun w' hw' => ?_, hK _ ?_⟩
      · have hq' := hw'
        have z0 := kept_cell hw' c0; have z1 := kept_cell hw' c1; have z2 := kept_cell hw' k2; have z3 := kept_cell hw' r0; have z4 := kept_cell hw' r1; go_simp
      clear hK K
      (try simp only [Act.put, List.setIfInBounds_toArray, List.set_cons_zero, List.set_cons_succ])
      refine WQ.want (by rfl) (fun K hK => ?_)
      refine ⟨.int .i64 j, fun w' hw' => ?_, hK _ ?_⟩
      · have hq' := hw'
        go_simp
      clear hK K
      (try simp only [Act.put, List.setIfInBounds_toArray, List.set_cons_zero, List.set_cons_succ])
      refine WQ.want (by rfl) (fun K hK => ?_)
      refine ⟨.pointer (some ⟨b4, off2 + j * 4, none⟩), fun w' hw' => ?_, hK _ ?_⟩
      · have hq' := hw'
        go_simp
      clear hK K
      (try simp only [Act.put, List.setIfInBounds_toArray, List.set_cons_zero, List.set_cons_succ])
      refine WQ.want (by rfl) (fun K hK => ?_)
      refine ⟨.pointer (some ⟨b4, off2 + j * 4, none⟩), fun w' hw' => ?_, hK _ ?_⟩
      · have hq' := hw'
        go_simp
      clear hK K
      (try simp only [Act.put, List.setIfInBounds_toArray, List.set_cons_zero, List.set_cons_succ])
      refine WQ.want (by rfl) (fun K hK => ?_)
      refine ⟨.string (S u.low), fun w' hw' => ?_, hK _ ?_⟩
      · have hq' := hw'
        have z0 := kept_cell hw' c0; have z1 := kept_cell hw' c1; have z2 := kept_cell hw' k2; have z3 := kept_cell hw' r0; have z4 := kept_cell hw' r1; go_simp
      clear hK K
      (try simp only [Act.put, List.setIfInBounds_toArray, List.set_cons_zero, List.set_cons_succ])
      refine WQ.want (by rfl) (fun K hK => ?_)
      refine ⟨.bool false, fun w' hw' => ?_, hK _ ?_⟩
      · have hq' := hw'
        go_simp
      clear hK K
      (try simp only [Act.put, List.setIfInBounds_toArray, List.set_cons_zero, List.set_cons_succ])
      refine WQ.want (by rfl) (fun K hK => ?_)
      refine ⟨.bool false, fun w' hw' => ?_, hK _ ?_⟩
      · have hq' := hw'
        go_simp
      clear hK K
      (try simp only [Act.put, List.setIfInBounds_toArray, List.set_cons_zero, List.set_cons_succ])
      refine WQ.want (by rfl) (fun K hK => ?_)
      refine ⟨.pointer (some ⟨wr.heap.size, 1, none⟩), fun w' hw' => ?_, hK _ ?_⟩
      · have hq' := hw'
        go_simp
      clear hK K
      (try simp only [Act.put, List.setIfInBounds_toArray, List.set_cons_zero, List.set_cons_succ])
      refine WQ.want (by rfl) (fun K hK => ?_)
      refine ⟨.pointer (some ⟨wr.heap.size, 1, none⟩), fun w' hw' => ?_, hK _ ?_⟩
      · have hq' := hw'
        go_simp
      clear hK K
      (try simp only [Act.put, List.setIfInBounds_toArray, List.set_cons_zero, List.set_cons_succ])
      refine WQ.want (by rfl) (fun K hK => ?_)
      refine ⟨.int .i64 u.addr, fun w' hw' => ?_, hK _ ?_⟩
      · have hq' := hw'
        have z0 := kept_cell hw' c0; have z1 := kept_cell hw' c1; have z2 := kept_cell hw' k2; have z3 := kept_cell hw' r0; have z4 := kept_cell hw' r1; go_simp
      clear hK K
      (try simp only [Act.put, List.setIfInBounds_toArray, List.set_cons_zero, List.set_cons_succ])
      refine WQ.want (by rfl) (fun K hK => ?_)
      refine ⟨.pointer (some ⟨w.heap.size + 1, 0, none⟩), fun w' hw' => ?_, hK _ ?_⟩
      · have hq' := hw'
        go_simp
      clear hK K
      (try simp only [Act.put, List.setIfInBounds_toArray, List.set_cons_zero, List.set_cons_succ])
      refine WQ.want (by rfl) (fun K hK => ?_)
      refine ⟨.slice (some ⟨b4, off2, none⟩) cs.length x2, fun w' hw' => ?_, hK _ ?_⟩
      · have hq' := hw'
        have z0 := kept_cell hw' c0; have z1 := kept_cell hw' c1; have z2 := kept_cell hw' k2; have z3 := kept_cell hw' r0; have z4 := kept_cell hw' r1; go_simp
      clear hK K
      (try simp only [Act.put, List.setIfInBounds_toArray, List.set_cons_zero, List.set_cons_succ])
      refine WQ.want (by rfl) (fun K hK => ?_)
      refine ⟨.int .i64 j, fun w' hw' => ?_, hK _ ?_⟩
      · have hq' := hw'
        go_simp
      clear hK K
      (try simp only [Act.put, List.setIfInBounds_toArray, List.set_cons_zero, List.set_cons_succ])
      refine WQ.want (by rfl) (fun K hK => ?_)
      refine ⟨.pointer (some ⟨b4, off2 + j * 4, none⟩), fun w' hw' => ?_, hK _ ?_⟩
      · have hq' := hw'
        go_simp
      clear hK K
      (try simp only [Act.put, List.setIfInBounds_toArray, List.set_cons_zero, List.set_cons_succ])
      refine WQ.want (by rfl) (fun K hK => ?_)
      refine ⟨.pointer (some ⟨b4, off2 + j * 4 + 1, none⟩), fun w' hw' => ?_, hK _ ?_⟩
      · have hq' := hw'
        go_simp
      clear hK K
      (try simp only [Act.put, List.setIfInBounds_toArray, List.set_cons_zero, List.set_cons_succ])
      refine WQ.want (by rfl) (fun K hK => ?_)
      refine ⟨.int .i64 u.addr, fun w' hw' => ?_, hK _ ?_⟩
      · have hq' := hw'
        have z0 := kept_cell hw' c0; have z1 := kept_cell hw' c1; have z2 := kept_cell hw' k2; have z3 := kept_cell hw' r0; have z4 := kept_cell hw' r1; go_simp
      clear hK K
      (try simp only [Act.put, List.setIfInBounds_toArray, List.set_cons_zero, List.set_cons_succ])
      refine WQ.want (by rfl) (fun K hK => ?_)
      refine ⟨.bool false, fun w' hw' => ?_, hK _ ?_⟩
      · have hq' := hw'
        go_simp
      clear hK K
      (try simp only [Act.put, List.setIfInBounds_toArray, List.set_cons_zero, List.set_cons_succ])
      refine WQ.want (by rfl) (fun K hK => ?_)
      refine ⟨.bool false, fun w' hw' => ?_, hK _ ?_⟩
      · have hq' := hw'
        go_simp
      clear hK K
      (try simp only [Act.put, List.setIfInBounds_toArray, List.set_cons_zero, List.set_cons_succ])
      refine WQ.done ?_
      rintro w2 hX2
      replace k2 := kept_cell hX2 k2
      replace r0 := kept_cell hX2 r0
      replace r1 := kept_cell hX2 r1
      replace c0 := kept_cell hX2 c0
      replace c1 := kept_cell hX2 c1
      replace c2 := kept_cell hX2 c2
      replace c3 := kept_cell hX2 c3
      replace hX := hX.trans (hX2.mono hX.size)
      clear hX2
      go_wp2_with fail
      go_roundw
      (case rel => exact ⟨j + 1, by go_num, by omega, hX⟩)
      (case measure => first | (simp [intOf]; done) | (simp [intOf]; omega))
    · obtain rfl : j = cs.length := by omega
      go_wp2_with fail
      go_ret
      exact ⟨rfl, hB⟩

end Go.Proofs.Ytlmlmkeomlehmaa
