/-
  The walk of FlushLimits.
-/
import Derived.Test.YtlmlmkeomlehmaaWkf
namespace Go.Proofs.Ytlmlmkeomlehmaa
open Go.RowKit
attribute [local go_sem ↓] Go.wp_at_zero Go.wp_at_succ

theorem elemB : Try.prog.elem 54 = 5 := by kernel_rfl
theorem underB : Try.prog.underlying 54 = some (.slice (Try.prog.elem 54)) := by rw [elemB]; exact Try.underlying54
theorem sizeElemB (w : World) : (sizeOf (Try.prog.elem 54)).run Try.prog w = .ok 1 w := by kernel_rfl
theorem cut_bytesD (ao : Option Addr) (n c i : Nat) (hin : i ≤ n) (hnc : n ≤ c) (w : World) : (Instr.slice 54 (.slice ao n c) none (some (.int .i64 (i : Int))) none).run Try.prog w = .ok (.slice ao i c) w := by
  rw [run_slice_h w 54 ao n c underB .i64 i (by omega) (by omega)]
  rw [sizeElemB]
  have e : ao.map (·.add 0) = ao := by cases ao <;> simp [Addr.add]
  simp [Result.andThen, sliced, e]
theorem spr_small (l : List Int) (j : Nat) : ∀ s ∈ sprTo l j, s.length ≤ 140737488355328 := by
  intro s hs
  unfold sprTo at hs
  obtain ⟨i, hi, rfl⟩ := List.mem_mapIdx.1 hs
  simp [sprd]
/-- What law 20's laws begin with. -/
theorem of_spread (ao : Option Addr) (c : Nat) (lows : List (List UInt8)) (v : Value) (n : Nat) (l : List Int) (B : Nat) (w : World) (hs : StrAt w ao lows) (hc : lows.length ≤ c) (hsl : ∀ s ∈ lows, s.length ≤ 140737488355328) (ho : w.ownsRow B 9 1 v n (strsV (sprTo l l.length))) :
    ∃ a d, v = .slice a n d ∧ Calls Try.prog 29 #[.slice ao lows.length c, .slice a n d] w fun e w' => (∃ va vb, e = .returned (.tuple #[va, vb]) ∧ NodeAt w' va (kids lows) (withAll (upds (sprTo l l.length))) ∧ NodeAt w' vb (kids lows) (withAll (upds (sprTo l l.length)))) ∧ Below w.heap.size w w' := by
  obtain ⟨a, d, rfl, h1, h2, h3⟩ := strAt_row ho
  refine ⟨a, d, by rw [h3], ?_⟩
  rw [← h3]
  exact of_any ao c lows a d (sprTo l l.length) w hs hc h1 h2 hsl (spr_small l l.length)

set_option maxRecDepth 100000 in
set_option maxHeartbeats 8000000 in
theorem flushLimits_walk (ao : Option Addr) (c : Nat) (lows : List (List UInt8)) (bo : Option Addr) (d : Nat) (l : List Int) (x0 x1 x2 : Int) (w : World) (hs : StrAt w ao lows) (hc : lows.length ≤ c) (hsl : ∀ s ∈ lows, s.length ≤ 140737488355328)
    (hb : SlAt (fun x : Int => [Value.int .u8 x]) 1 w bo l) (hd : l.length ≤ d) (hx : ∀ x ∈ l, 0 ≤ x ∧ x < 256) :
    Calls Try.prog 9 #[.slice ao lows.length c, .slice bo l.length d, .agg #[.int .i64 x0, .int .i64 x1, .int .i64 x2]] w fun e w' => e = .returned (.bool true) ∧ Below w.heap.size w w' := by
  have hmin := fun ts t a b w => run_tmin (P := Try.prog) ts t a b w
  have hm : tmin (l.length : Int) 60 = ((min l.length 60 : Nat) : Int) := tmin_nat _ 60
  generalize hM : min l.length 60 = m at *
  have hmx : m ≤ l.length := by omega
  have hm60 : m ≤ 60 := by omega
  have hcut := fun W => cut_bytesD bo l.length d m hmx hd W
  have hlt : (l.take m).length = m := by rw [List.length_take]; omega
  have hxx : ∀ x ∈ l.take m, 0 ≤ x ∧ x < 256 := fun x hx' => hx x (List.mem_of_mem_take hx')
  have hbc := hb.cut m
  clear hb hx hM
  generalize l.take m = L at *
  subst hlt
  have HSP := Lib.hid (fun W h => spread_any bo d L W h (by omega) hxx)
  have HS := Lib.hid hs
  have HB := Lib.hid hbc
  clear hs hbc hxx
  go_enter Try.func9, Try.ntmps9
  go_wp2_with fail
  refine (thread (HSP.out _ (HB.out.kept (by go_grown) (Nat.le_refl _))) w.heap.size w (by go_grown) (by go_grown)).mono ?_
  rintro e w1 ⟨⟨v1, rfl, ho1⟩, hB1, hk1, -, hs1, hz1⟩
  obtain ⟨a1, d1, rfl, hof⟩ := of_spread ao c lows v1 _ L _ w1 (HS.out.kept hB1 (Nat.le_refl _)) hc hsl ho1
  have HOF := Lib.hid hof
  clear hof ho1
  have q0 : w1.cell? ⟨w.heap.size, 0, none⟩ = some (.int .i64 x0) := (hk1 w.heap.size 0 (by simp)).trans (by simp)
  have q1 : w1.cell? ⟨w.heap.size, 1, none⟩ = some (.int .i64 x1) := (hk1 w.heap.size 1 (by simp)).trans (by simp)
  have q2 : w1.cell? ⟨w.heap.size, 2, none⟩ = some (.int .i64 x2) := (hk1 w.heap.size 2 (by simp)).trans (by simp)
  simp at hs1
  have hN1 : w.heap.size < w1.heap.size := by omega
  clear hk1
  go_wp2_with fail
  refine (thread HOF.out w1.heap.size w1 (by go_grown) (by go_grown)).mono ?_
  rintro e w2 ⟨⟨va, vb, rfl, hva, hvb⟩, hX2, -, -, -, hz2⟩
  obtain ⟨a2, b2, y2, z2, rfl, hc2, hu2⟩ := hva
  obtain ⟨a3, b3, y3, z3, rfl, -, -⟩ := hvb
  have HNA := Lib.hid (NodeAt.mk' hc2 hu2)
  have r0 := kept_cell hX2 q0
  have r1 := kept_cell hX2 q1
  have r2 := kept_cell hX2 q2
  have hB2 := hB1.trans (hX2.mono hz1)
  clear hc2 hu2 q0 q1 q2 hX2
  generalize kids lows = C at *
  generalize withAll (upds (sprTo L L.length)) = U at *
  have hN2 : w.heap.size < w2.heap.size := by omega
  have r0' := cell_past (.cells #[.slice a3 C.length y3, .slice b3 U.length z3] 35) (cell_past (.cells #[.slice a2 C.length y2, .slice b2 U.length z2] 31) r0)
  have r1' := cell_past (.cells #[.slice a3 C.length y3, .slice b3 U.length z3] 35) (cell_past (.cells #[.slice a2 C.length y2, .slice b2 U.length z2] 31) r1)
  have r2' := cell_past (.cells #[.slice a3 C.length y3, .slice b3 U.length z3] 35) (cell_past (.cells #[.slice a2 C.length y2, .slice b2 U.length z2] 31) r2)
  go_wp2_with fail
  obtain ⟨W, hW⟩ : ∃ W, W = (((w2.alloc (.cells #[.slice a2 C.length y2, .slice b2 U.length z2] 31)).alloc (.cells #[.slice a3 C.length y3, .slice b3 U.length z3] 35)).alloc (.cells #[.int .i64 x0, .int .i64 x1, .int .i64 x2] 92)) := ⟨_, rfl⟩
  rw [← hW]
  have hXW : Below w2.heap.size w2 W := by rw [hW]; go_grown
  have e0 := kept_cell hXW r0
  have e1 := kept_cell hXW r1
  have n0 : W.cell? ⟨w2.heap.size, 0, none⟩ = some (.slice a2 C.length y2) := by rw [hW, World.cell?_alloc_past _ _ _ (by simp <;> omega), World.cell?_alloc_past _ _ _ (by simp <;> omega), World.cell?_alloc_at _ _ _ _ rfl]; rfl
  have n1 : W.cell? ⟨w2.heap.size, 1, none⟩ = some (.slice b2 U.length z2) := by rw [hW, World.cell?_alloc_past _ _ _ (by simp <;> omega), World.cell?_alloc_past _ _ _ (by simp <;> omega), World.cell?_alloc_at _ _ _ _ rfl]; rfl
  have m0 : W.cell? ⟨w2.heap.size + 1, 0, none⟩ = some (.slice a3 C.length y3) := by rw [hW, World.cell?_alloc_past _ _ _ (by simp <;> omega), World.cell?_alloc_at _ _ _ _ (by simp)]; rfl
  have m1 : W.cell? ⟨w2.heap.size + 1, 1, none⟩ = some (.slice b3 U.length z3) := by rw [hW, World.cell?_alloc_past _ _ _ (by simp <;> omega), World.cell?_alloc_at _ _ _ _ (by simp)]; rfl
  have p0 : W.cell? ⟨w2.heap.size + 1 + 1, 0, none⟩ = some (.int .i64 x0) := by rw [hW, World.cell?_alloc_at _ _ _ _ (by simp)]; rfl
  have p1 : W.cell? ⟨w2.heap.size + 1 + 1, 1, none⟩ = some (.int .i64 x1) := by rw [hW, World.cell?_alloc_at _ _ _ _ (by simp)]; rfl
  have p2 : W.cell? ⟨w2.heap.size + 1 + 1, 2, none⟩ = some (.int .i64 x2) := by rw [hW, World.cell?_alloc_at _ _ _ _ (by simp)]; rfl
  have HNW := Lib.hid (HNA.out.kept hXW (Nat.le_refl _))
  have hBW := hB2.trans (hXW.mono (by omega))
  clear hW r0 r1 r2 r0' r1' r2' hXW
  refine WQ.region (C := fun w' => Below W.heap.size W w') (by kernel_rfl) (by kernel_rfl) (below_drew' (Below.refl _ _)) ?_
  refine WQ.want (by rfl) (fun K hK => ?_)
  refine ⟨.bool true, fun w' hw' => ?_, hK _ ?_⟩
  · have hq' := hw'
    go_simp
    go_at_call 39
    refine (wakes20_any _).mono ?_
    rintro e w6 ⟨he, hb6⟩
    exact ⟨he, hq'.trans (hb6.mono hq'.size)⟩
  clear hK K
  (try simp only [Act.put, List.setIfInBounds_toArray, List.set_cons_zero, List.set_cons_succ])
  refine WQ.want (by rfl) (fun K hK => ?_)
  refine ⟨.bool true, fun w' hw' => ?_, hK _ ?_⟩
  · have hq' := hw'
    go_simp
  clear hK K
  (try simp only [Act.put, List.setIfInBounds_toArray, List.set_cons_zero, List.set_cons_succ])
  refine WQ.want (by rfl) (fun K hK => ?_)
  refine ⟨.agg #[.slice a2 C.length y2, .slice b2 U.length z2], fun w' hw' => ?_, hK _ ?_⟩
  · have hq' := hw'
    have z0 := kept_cell hw' n0; have z1 := kept_cell hw' n1; have z2 := kept_cell hw' m0; have z3 := kept_cell hw' m1; have z4 := kept_cell hw' p0; have z5 := kept_cell hw' p1; have z6 := kept_cell hw' p2; have z7 := kept_cell hw' e0; have z8 := kept_cell hw' e1; go_simp
  clear hK K
  (try simp only [Act.put, List.setIfInBounds_toArray, List.set_cons_zero, List.set_cons_succ])
  refine WQ.want (by rfl) (fun K hK => ?_)
  refine ⟨.agg #[.int .i64 x0, .int .i64 x1, .int .i64 x2], fun w' hw' => ?_, hK _ ?_⟩
  · have hq' := hw'
    have z0 := kept_cell hw' n0; have z1 := kept_cell hw' n1; have z2 := kept_cell hw' m0; have z3 := kept_cell hw' m1; have z4 := kept_cell hw' p0; have z5 := kept_cell hw' p1; have z6 := kept_cell hw' p2; have z7 := kept_cell hw' e0; have z8 := kept_cell hw' e1; go_simp
  clear hK K
  (try simp only [Act.put, List.setIfInBounds_toArray, List.set_cons_zero, List.set_cons_succ])
  refine WQ.want (by rfl) (fun K hK => ?_)
  refine ⟨.bool (decide (x1 < (U.length : Int))), fun w' hw' => ?_, hK _ ?_⟩
  · have hq' := hw'
    go_simp
    go_at_call 40
    refine (full_any _ C U x0 x1 x2 _ (HNW.out.kept hq' (Nat.le_refl _))).mono ?_
    rintro e w6 ⟨he, hb6⟩
    exact ⟨he, hq'.trans (hb6.mono hq'.size)⟩
  clear hK K
  (try simp only [Act.put, List.setIfInBounds_toArray, List.set_cons_zero, List.set_cons_succ])
  refine WQ.want (by rfl) (fun K hK => ?_)
  refine ⟨.pointer (some ⟨w2.heap.size + 1, 1, none⟩), fun w' hw' => ?_, hK _ ?_⟩
  · have hq' := hw'
    go_simp
  clear hK K
  (try simp only [Act.put, List.setIfInBounds_toArray, List.set_cons_zero, List.set_cons_succ])
  refine WQ.want (by rfl) (fun K hK => ?_)
  refine ⟨.slice b3 U.length z3, fun w' hw' => ?_, hK _ ?_⟩
  · have hq' := hw'
    have z0 := kept_cell hw' n0; have z1 := kept_cell hw' n1; have z2 := kept_cell hw' m0; have z3 := kept_cell hw' m1; have z4 := kept_cell hw' p0; have z5 := kept_cell hw' p1; have z6 := kept_cell hw' p2; have z7 := kept_cell hw' e0; have z8 := kept_cell hw' e1; go_simp
  clear hK K
  (try simp only [Act.put, List.setIfInBounds_toArray, List.set_cons_zero, List.set_cons_succ])
  refine WQ.want (by rfl) (fun K hK => ?_)
  refine ⟨.int .i64 U.length, fun w' hw' => ?_, hK _ ?_⟩
  · have hq' := hw'
    go_simp
  clear hK K
  (try simp only [Act.put, List.setIfInBounds_toArray, List.set_cons_zero, List.set_cons_succ])
  refine WQ.want (by rfl) (fun K hK => ?_)
  refine ⟨.pointer (some ⟨w.heap.size, 1, none⟩), fun w' hw' => ?_, hK _ ?_⟩
  · have hq' := hw'
    go_simp
  clear hK K
  (try simp only [Act.put, List.setIfInBounds_toArray, List.set_cons_zero, List.set_cons_succ])
  refine WQ.want (by rfl) (fun K hK => ?_)
  refine ⟨.int .i64 x1, fun w' hw' => ?_, hK _ ?_⟩
  · have hq' := hw'
    have z0 := kept_cell hw' n0; have z1 := kept_cell hw' n1; have z2 := kept_cell hw' m0; have z3 := kept_cell hw' m1; have z4 := kept_cell hw' p0; have z5 := kept_cell hw' p1; have z6 := kept_cell hw' p2; have z7 := kept_cell hw' e0; have z8 := kept_cell hw' e1; go_simp
  clear hK K
  (try simp only [Act.put, List.setIfInBounds_toArray, List.set_cons_zero, List.set_cons_succ])
  refine WQ.want (by rfl) (fun K hK => ?_)
  refine ⟨.bool (decide (x1 < (U.length : Int))), fun w' hw' => ?_, hK _ ?_⟩
  · have hq' := hw'
    go_simp
  clear hK K
  (try simp only [Act.put, List.setIfInBounds_toArray, List.set_cons_zero, List.set_cons_succ])
  refine WQ.want (by rfl) (fun K hK => ?_)
  refine ⟨.bool true, fun w' hw' => ?_, hK _ ?_⟩
  · have hq' := hw'
    go_simp
  clear hK K
  (try simp only [Act.put, List.setIfInBounds_toArray, List.set_cons_zero, List.set_cons_succ])
  refine WQ.want (by rfl) (fun K hK => ?_)
  refine ⟨.bool true, fun w' hw' => ?_, hK _ ?_⟩
  · have hq' := hw'
    go_simp
  clear hK K
  (try simp only [Act.put, List.setIfInBounds_toArray, List.set_cons_zero, List.set_cons_succ])
  refine WQ.want (by rfl) (fun K hK => ?_)
  refine ⟨.bool true, fun w' hw' => ?_, hK _ ?_⟩
  · have hq' := hw'
    go_simp
  clear hK K
  (try simp only [Act.put, List.setIfInBounds_toArray, List.set_cons_zero, List.set_cons_succ])
  refine WQ.want (by rfl) (fun K hK => ?_)
  refine ⟨.agg #[.slice a2 C.length y2, .slice b2 U.length z2], fun w' hw' => ?_, hK _ ?_⟩
  · have hq' := hw'
    have z0 := kept_cell hw' n0; have z1 := kept_cell hw' n1; have z2 := kept_cell hw' m0; have z3 := kept_cell hw' m1; have z4 := kept_cell hw' p0; have z5 := kept_cell hw' p1; have z6 := kept_cell hw' p2; have z7 := kept_cell hw' e0; have z8 := kept_cell hw' e1; go_simp
  clear hK K
  (try simp only [Act.put, List.setIfInBounds_toArray, List.set_cons_zero, List.set_cons_succ])
  refine WQ.want (by rfl) (fun K hK => ?_)
  refine ⟨.agg #[.int .i64 x0, .int .i64 x1, .int .i64 x2], fun w' hw' => ?_, hK _ ?_⟩
  · have hq' := hw'
    have z0 := kept_cell hw' n0; have z1 := kept_cell hw' n1; have z2 := kept_cell hw' m0; have z3 := kept_cell hw' m1; have z4 := kept_cell hw' p0; have z5 := kept_cell hw' p1; have z6 := kept_cell hw' p2; have z7 := kept_cell hw' e0; have z8 := kept_cell hw' e1; go_simp
  clear hK K
  (try simp only [Act.put, List.setIfInBounds_toArray, List.set_cons_zero, List.set_cons_succ])
  refine WQ.want (by rfl) (fun K hK => ?_)
  refine ⟨.bool (decide (x0 < (C.length : Int))), fun w' hw' => ?_, hK _ ?_⟩
  · have hq' := hw'
    go_simp
    go_at_call 41
    refine (wide_any _ C U x0 x1 x2 _ (HNW.out.kept hq' (Nat.le_refl _))).mono ?_
    rintro e w6 ⟨he, hb6⟩
    exact ⟨he, hq'.trans (hb6.mono hq'.size)⟩
  clear hK K
  (try simp only [Act.put, List.setIfInBounds_toArray, List.set_cons_zero, List.set_cons_succ])
  refine WQ.want (by rfl) (fun K hK => ?_)
  refine ⟨.pointer (some ⟨w2.heap.size + 1, 0, none⟩), fun w' hw' => ?_, hK _ ?_⟩
  · have hq' := hw'
    go_simp
  clear hK K
  (try simp only [Act.put, List.setIfInBounds_toArray, List.set_cons_zero, List.set_cons_succ])
  refine WQ.want (by rfl) (fun K hK => ?_)
  refine ⟨.slice a3 C.length y3, fun w' hw' => ?_, hK _ ?_⟩
  · have hq' := hw'
    have z0 := kept_cell hw' n0; have z1 := kept_cell hw' n1; have z2 := kept_cell hw' m0; have z3 := kept_cell hw' m1; have z4 := kept_cell hw' p0; have z5 := kept_cell hw' p1; have z6 := kept_cell hw' p2; have z7 := kept_cell hw' e0; have z8 := kept_cell hw' e1; go_simp
  clear hK K
  (try simp only [Act.put, List.setIfInBounds_toArray, List.set_cons_zero, List.set_cons_succ])
  refine WQ.want (by rfl) (fun K hK => ?_)
  refine ⟨.int .i64 C.length, fun w' hw' => ?_, hK _ ?_⟩
  · have hq' := hw'
    go_simp
  clear hK K
  (try simp only [Act.put, List.setIfInBounds_toArray, List.set_cons_zero, List.set_cons_succ])
  refine WQ.want (by rfl) (fun K hK => ?_)
  refine ⟨.pointer (some ⟨w.heap.size, 0, none⟩), fun w' hw' => ?_, hK _ ?_⟩
  · have hq' := hw'
    go_simp
  clear hK K
  (try simp only [Act.put, List.setIfInBounds_toArray, List.set_cons_zero, List.set_cons_succ])
  refine WQ.want (by rfl) (fun K hK => ?_)
  refine ⟨.int .i64 x0, fun w' hw' => ?_, hK _ ?_⟩
  · have hq' := hw'
    have z0 := kept_cell hw' n0; have z1 := kept_cell hw' n1; have z2 := kept_cell hw' m0; have z3 := kept_cell hw' m1; have z4 := kept_cell hw' p0; have z5 := kept_cell hw' p1; have z6 := kept_cell hw' p2; have z7 := kept_cell hw' e0; have z8 := kept_cell hw' e1; go_simp
  clear hK K
  (try simp only [Act.put, List.setIfInBounds_toArray, List.set_cons_zero, List.set_cons_succ])
  refine WQ.want (by rfl) (fun K hK => ?_)
  refine ⟨.bool (decide (x0 < (C.length : Int))), fun w' hw' => ?_, hK _ ?_⟩
  · have hq' := hw'
    go_simp
  clear hK K
  (try simp only [Act.put, List.setIfInBounds_toArray, List.set_cons_zero, List.set_cons_succ])
  refine WQ.want (by rfl) (fun K hK => ?_)
  refine ⟨.bool true, fun w' hw' => ?_, hK _ ?_⟩
  · have hq' := hw'
    go_simp
  clear hK K
  (try simp only [Act.put, List.setIfInBounds_toArray, List.set_cons_zero, List.set_cons_succ])
  refine WQ.want (by rfl) (fun K hK => ?_)
  refine ⟨.bool true, fun w' hw' => ?_, hK _ ?_⟩
  · have hq' := hw'
    go_simp
  clear hK K
  (try simp only [Act.put, List.setIfInBounds_toArray, List.set_cons_zero, List.set_cons_succ])
  refine WQ.want (by rfl) (fun K hK => ?_)
  refine ⟨.bool true, fun w' hw' => ?_, hK _ ?_⟩
  · have hq' := hw'
    go_simp
  clear hK K
  (try simp only [Act.put, List.setIfInBounds_toArray, List.set_cons_zero, List.set_cons_succ])
  refine WQ.done ?_
  rintro w5 hX5
  go_wp2_with fail
  go_ret
  exact ⟨rfl, hBW.trans (hX5.mono hBW.size)⟩

end Go.Proofs.Ytlmlmkeomlehmaa
