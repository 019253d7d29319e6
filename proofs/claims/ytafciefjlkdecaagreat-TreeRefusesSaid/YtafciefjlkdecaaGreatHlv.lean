/-
  The walk of flush.Halves.
-/
import Derived.Test.YtafciefjlkdecaaGreatStp
import Derived.Deep.DeepMust
namespace Go.Proofs.YtafciefjlkdecaaGreat
open Go.RowKit
attribute [local go_sem ↓] Go.wp_at_zero Go.wp_at_succ

theorem under_C : Tryz.prog.underlying 100 = some (.slice (Tryz.prog.elem 100)) := by rw [show Tryz.prog.elem 100 = 179 by kernel_rfl]; exact Tryz.underlying100
theorem sizeElemC (w : World) : (sizeOf (Tryz.prog.elem 100)).run Tryz.prog w = .ok 4 w := by kernel_rfl

theorem far_two {w : World} {b b' o : Nat} {v u u' : Value} (h : b ≠ b') (hc : w.cell? ⟨b, o, none⟩ = some v) : ((w.setCell ⟨b', 0, none⟩ u).setCell ⟨b', 1, none⟩ u').cell? ⟨b, o, none⟩ = some v :=
  far_block h (far_block h hc)
/-- A node in a box that is new. -/
structure NilAt (w : World) (p : Nat) : Prop where
  c0 : w.cell? ⟨p, 0, none⟩ = some (.slice none 0 0)
  c1 : w.cell? ⟨p, 1, none⟩ = some (.slice none 0 0)
  f0 : w.frozen? ⟨p, 0, none⟩ = false
  f1 : w.frozen? ⟨p, 1, none⟩ = false
theorem NilAt.new (w : World) (t : TypeId) (p : Nat) (hp : p = w.heap.size) : NilAt (w.alloc (.cells #[.slice none 0 0, .slice none 0 0] t)) p :=
  ⟨by rw [World.cell?_alloc_at _ _ _ _ hp]; rfl, by rw [World.cell?_alloc_at _ _ _ _ hp]; rfl, World.frozen?_alloc_at _ _ _ _ hp, World.frozen?_alloc_at _ _ _ _ hp⟩
theorem NilAt.on {w w' : World} {p : Nat} (h : NilAt w p) (hb : Below w.heap.size w w') : NilAt w' p := by
  have hp := World.block_lt_of_cell? w _ h.c0
  exact ⟨((bcell hb).1 p 0 hp).trans h.c0, ((bcell hb).1 p 1 hp).trans h.c1, ((bcell hb).2 p 0 hp).trans h.f0, ((bcell hb).2 p 1 hp).trans h.f1⟩
theorem NilAt.alloc {w : World} {p : Nat} (h : NilAt w p) (o : Obj) : NilAt (w.alloc o) p := h.on ((Below.refl _ _).alloc (Nat.le_refl _) o)
theorem NilAt.drew {w : World} {p : Nat} (h : NilAt w p) : NilAt w.drew p := ⟨h.c0, h.c1, h.f0, h.f1⟩
theorem NilAt.far {w : World} {p q : Nat} (h : NilAt w p) (hn : p ≠ q) (u u' : Value) : NilAt ((w.setCell ⟨q, 0, none⟩ u).setCell ⟨q, 1, none⟩ u') p :=
  ⟨far_two hn h.c0, far_two hn h.c1, by rw [World.frozen?_setCell, World.frozen?_setCell]; exact h.f0, by rw [World.frozen?_setCell, World.frozen?_setCell]; exact h.f1⟩
theorem NilAt.half {w : World} {p : Nat} (h : NilAt w p) (u : Value) (o : Obj) : ((w.setCell ⟨p, 0, none⟩ u).alloc o).cell? ⟨p, 1, none⟩ = some (.slice none 0 0) ∧ ((w.setCell ⟨p, 0, none⟩ u).alloc o).frozen? ⟨p, 1, none⟩ = false := by
  have hp := World.block_lt_of_cell? w _ h.c0
  refine ⟨cell_past o ((World.cell?_setCell_other _ _ _ _ (addr_ne (Or.inr (by decide)))).trans h.c1), ?_⟩
  rw [World.frozen?_alloc_past _ _ _ (by rw [World.size_setCell]; exact hp), World.frozen?_setCell]
  exact h.f1
/-- The least key of a child. -/
def lowAt (cs : List Chd) (i : Nat) : List UInt8 := (cs[i]?.map Chd.low).getD []
/-- The first one's least key is no more. -/
def headless : List Chd → List Chd
  | [] => []
  | c :: l => { c with low := [] } :: l
theorem headless_len (l : List Chd) : (headless l).length = l.length := by cases l <;> rfl
theorem cells_headless (l : List Chd) (h : 0 < l.length) : (cellsC l).set 0 (.string ⟨#[]⟩) = cellsC (headless l) := by
  cases l with
  | nil => simp at h
  | cons c l => rfl
/-- Two new nodes, each of one slice of children. -/
structure TwoN (w wx : World) (p q : Nat) (u v : Value) : Prop where
  a0 : wx.cell? ⟨p, 0, none⟩ = some u
  a1 : wx.cell? ⟨p, 1, none⟩ = some (.slice none 0 0)
  b0 : wx.cell? ⟨q, 0, none⟩ = some v
  b1 : wx.cell? ⟨q, 1, none⟩ = some (.slice none 0 0)
  fa : wx.frozen? ⟨p, 1, none⟩ = false
  fb : wx.frozen? ⟨q, 1, none⟩ = false
  ne : p ≠ q
  os : wx.os = w.os
  tape : wx.tape = w.tape
  output : wx.output = w.output
  size : w.heap.size ≤ wx.heap.size
  block : ∀ k, k < w.heap.size → k ≠ p → k ≠ q → wx.heap[k]? = w.heap[k]?
theorem NilAt.lt {w : World} {p : Nat} (h : NilAt w p) : p < w.heap.size := World.block_lt_of_cell? w _ h.c0
theorem TwoN.both {w : World} {p q : Nat} (hp : NilAt w p) (hq : NilAt w q) (hn : p ≠ q) (u v : Value) : TwoN w ((((w.setCell ⟨p, 0, none⟩ u).setCell ⟨p, 1, none⟩ (.slice none 0 0)).setCell ⟨q, 0, none⟩ v).setCell ⟨q, 1, none⟩ (.slice none 0 0)) p q u v := by
  have h1 : ((w.setCell ⟨p, 0, none⟩ u).setCell ⟨p, 1, none⟩ (.slice none 0 0)).cell? ⟨p, 0, none⟩ = some u := by
    rw [World.cell?_setCell_other _ _ _ _ (addr_ne (Or.inr (by decide)))]; exact World.cell?_setCell_same _ _ _ hp.c0
  have h2 : ((w.setCell ⟨p, 0, none⟩ u).setCell ⟨p, 1, none⟩ (.slice none 0 0)).cell? ⟨p, 1, none⟩ = some (.slice none 0 0) :=
    World.cell?_setCell_same _ _ _ ((World.cell?_setCell_other _ _ _ _ (addr_ne (Or.inr (by decide)))).trans hp.c1)
  have hq' := hq.far (Ne.symm hn) u (.slice none 0 0)
  refine ⟨far_two hn h1, far_two hn h2, ?_, ?_, ?_, ?_, hn, rfl, rfl, rfl, by simp only [World.size_setCell]; exact Nat.le_refl _, fun k hk h3 h4 => ?_⟩
  · rw [World.cell?_setCell_other _ _ _ _ (addr_ne (Or.inr (by decide)))]; exact World.cell?_setCell_same _ _ _ hq'.c0
  · exact World.cell?_setCell_same _ _ _ ((World.cell?_setCell_other _ _ _ _ (addr_ne (Or.inr (by decide)))).trans hq'.c1)
  · simp only [World.frozen?_setCell]; exact hp.f1
  · simp only [World.frozen?_setCell]; exact hq.f1
  · exact ((Below.heap_setCell _ _ _ _ h4).trans (Below.heap_setCell _ _ _ _ h4)).trans ((Below.heap_setCell _ _ _ _ h3).trans (Below.heap_setCell _ _ _ _ h3))
theorem TwoN.back {w wx : World} {p q : Nat} {u v : Value} {o : Obj} (h : TwoN (w.alloc o) wx p q u v) : TwoN w wx p q u v :=
  ⟨h.a0, h.a1, h.b0, h.b1, h.fa, h.fb, h.ne, h.os, h.tape, h.output, Nat.le_trans (by simp) h.size, fun k hk h1 h2 => (h.block k (by simp; omega) h1 h2).trans (Below.heap_alloc w o k hk)⟩
theorem TwoN.old {w : World} {p : Nat} (hp : NilAt w p) (t : TypeId) (u v : Value) : TwoN w (((((w.alloc (.cells #[.slice none 0 0, .slice none 0 0] t)).setCell ⟨p, 0, none⟩ u).setCell ⟨p, 1, none⟩ (.slice none 0 0)).setCell ⟨w.heap.size, 0, none⟩ v).setCell ⟨w.heap.size, 1, none⟩ (.slice none 0 0)) p w.heap.size u v :=
  (TwoN.both (hp.alloc _) (NilAt.new w t _ rfl) (Nat.ne_of_lt hp.lt) u v).back
theorem TwoN.new {w : World} {q : Nat} (hq : NilAt w q) (t : TypeId) (u v : Value) : TwoN w (((w.alloc (.cells #[u, .slice none 0 0] t)).setCell ⟨q, 0, none⟩ v).setCell ⟨q, 1, none⟩ (.slice none 0 0)) w.heap.size q u v := by
  have hl := hq.lt
  have hq' := hq.alloc (.cells #[u, .slice none 0 0] t)
  refine ⟨far_two (Nat.ne_of_gt hl) (by rw [World.cell?_alloc_at _ _ _ _ rfl]; rfl), far_two (Nat.ne_of_gt hl) (by rw [World.cell?_alloc_at _ _ _ _ rfl]; rfl), ?_, ?_, ?_, ?_, Nat.ne_of_gt hl, rfl, rfl, rfl, by simp only [World.size_setCell, World.size_alloc]; omega, fun k hk h3 h4 => ?_⟩
  · rw [World.cell?_setCell_other _ _ _ _ (addr_ne (Or.inr (by decide)))]; exact World.cell?_setCell_same _ _ _ hq'.c0
  · exact World.cell?_setCell_same _ _ _ ((World.cell?_setCell_other _ _ _ _ (addr_ne (Or.inr (by decide)))).trans hq'.c1)
  · simp only [World.frozen?_setCell]; exact World.frozen?_alloc_at _ _ _ _ rfl
  · simp only [World.frozen?_setCell]; exact hq'.f1
  · exact ((Below.heap_setCell _ _ _ _ h4).trans (Below.heap_setCell _ _ _ _ h4)).trans (Below.heap_alloc w _ k hk)
theorem TwoN.fresh {w : World} (t : TypeId) (u v : Value) : TwoN w ((w.alloc (.cells #[u, .slice none 0 0] t)).alloc (.cells #[v, .slice none 0 0] t)) w.heap.size (w.heap.size + 1) u v :=
  ⟨cell_past _ (by rw [World.cell?_alloc_at _ _ _ _ rfl]; rfl), cell_past _ (by rw [World.cell?_alloc_at _ _ _ _ rfl]; rfl), by rw [World.cell?_alloc_at _ _ _ _ (by simp)]; rfl, by rw [World.cell?_alloc_at _ _ _ _ (by simp)]; rfl,
    by rw [World.frozen?_alloc_past _ _ _ (by simp)]; exact World.frozen?_alloc_at _ _ _ _ rfl, World.frozen?_alloc_at _ _ _ _ (by simp), by omega, rfl, rfl, rfl, by simp only [World.size_alloc]; omega, fun k hk _ _ => (Below.heap_alloc _ _ k (by simp; omega)).trans (Below.heap_alloc w _ k hk)⟩
theorem TwoN.swap {w wx : World} {p q : Nat} {u v : Value} (h : TwoN w wx p q u v) : TwoN w wx q p v u :=
  ⟨h.b0, h.b1, h.a0, h.a1, h.fb, h.fa, h.ne.symm, h.os, h.tape, h.output, h.size, fun k hk h1 h2 => h.block k hk h2 h1⟩
theorem TwoN.row {w wx : World} {p q : Nat} {u v : Value} (h : TwoN w wx p q u v) {B : Nat} {E : TypeId} {k : Nat} {x : Value} {n : Nat} {xs : List Value} (ho : w.ownsRow B E k x n xs) (h1 : x.ownBlock ≠ some p) (h2 : x.ownBlock ≠ some q) : wx.ownsRow B E k x n xs := by
  obtain ⟨hl, h3 | ⟨g, cap, cur, e, h4, h5, h6⟩⟩ := ho
  · exact ⟨hl, Or.inl h3⟩
  · subst e
    have hg : g < w.heap.size := (Array.getElem?_eq_some_iff.1 h5).1
    exact ⟨hl, Or.inr ⟨g, cap, cur, rfl, h4, (h.block g hg (fun e => h1 (by rw [← e]; rfl)) (fun e => h2 (by rw [← e]; rfl))).trans h5, h6⟩⟩
theorem TwoN.below {w wx W0 : World} {p q B : Nat} {u v : Value} (h : TwoN w wx p q u v) (hb : Below B W0 w) (h1 : B ≤ p) (h2 : B ≤ q) (hB : B ≤ w.heap.size) : Below B W0 wx :=
  hb.trans ⟨h.os, h.tape, h.output, h.size, fun k hk => h.block k (by omega) (by omega) (by omega)⟩
theorem slC_take {w : World} {b off c : Nat} {l : List Chd} (h : SlC w (.slice (some ⟨b, off, none⟩) l.length c) l) (m : Nat) (hm : m ≤ l.length) : SlC w (.slice (some ⟨b, off, none⟩) m c) (l.take m) := by
  obtain ⟨ao, c', e, h1, h2, h3, h4⟩ := h
  simp only [Value.slice.injEq] at e
  obtain ⟨rfl, -, rfl⟩ := e
  exact ⟨_, c, by rw [List.length_take, Nat.min_eq_left hm], h1.cut m, by rw [List.length_take]; omega, h3, fun e => by simp at e⟩
theorem slC_drop {w : World} {b off c : Nat} {l : List Chd} (h : SlC w (.slice (some ⟨b, off, none⟩) l.length c) l) (m : Nat) (hm : m ≤ l.length) : SlC w (.slice (some ⟨b, off + m * 4, none⟩) (l.length - m) (c - m)) (l.drop m) := by
  obtain ⟨ao, c', e, h1, h2, h3, h4⟩ := h
  simp only [Value.slice.injEq] at e
  obtain ⟨rfl, -, rfl⟩ := e
  exact ⟨_, c - m, by rw [List.length_drop], h1.drop m b off rfl, by rw [List.length_drop]; omega, by omega, fun e => by simp at e⟩
theorem slice_loC (ao : Option Addr) (n c i : Nat) (hin : i ≤ n) (hnc : n ≤ c) (w : World) : (Instr.slice 100 (.slice ao n c) none (some (.int .i64 (i : Int))) none).run Tryz.prog w = .ok (.slice ao i c) w := by
  rw [run_slice_h w 100 ao n c under_C .i64 i (by omega) (by omega)]
  rw [sizeElemC]
  have e : ao.map (·.add 0) = ao := by cases ao <;> simp [Addr.add]
  simp [Result.andThen, sliced, e]
theorem slice_hiC (b off n c i : Nat) (hin : i < n) (hnc : n ≤ c) (w : World) : (Instr.slice 100 (.slice (some ⟨b, off, none⟩) n c) (some (.int .i64 (i : Int))) none none).run Tryz.prog w = .ok (.slice (some ⟨b, off + i * 4, none⟩) (n - i) (c - i)) w := by
  rw [run_slice_l w 100 (some ⟨b, off, none⟩) n c under_C .i64 i (by omega) (by omega)]
  rw [sizeElemC]
  simp only [Result.andThen, sliced, Int.toNat_natCast]
  rw [if_neg (by omega)]
  simp [Addr.add]

set_option maxRecDepth 100000 in
set_option maxHeartbeats 4000000 in
theorem halves_none (v : Value) (cs : List Chd) (us : List Upd) (w : World) (h : NodeAt w v cs us) (hl : cs.length < 2) :
    Calls Tryz.prog 98 #[v] w fun e w' => e = .returned (.tuple #[.agg #[.slice none 0 0, .slice none 0 0], .agg #[.slice none 0 0, .slice none 0 0], .string ⟨#[]⟩, .bool false]) ∧ Below w.heap.size w w' := by
  obtain ⟨a, b, x, y, rfl, h1, h2⟩ := h
  clear h1 h2
  have hl' : (cs.length : Int) < 2 := by omega
  go_enter Tryz.func98, Tryz.ntmps98
  go_wp2_with fail
  refine bodyPost_ret (v := .tuple #[.agg #[.slice none 0 0, .slice none 0 0], .agg #[.slice none 0 0, .slice none 0 0], .string ⟨#[]⟩, .bool false]) ?_ rfl ⟨rfl, ?_⟩
  · simp [results, Tryz.results98, go_sem]
  · go_grown
set_option maxRecDepth 100000 in
set_option maxHeartbeats 16000000 in
theorem halves_some (v : Value) (cs : List Chd) (us : List Upd) (w : World) (h : NodeAt w v cs us) (hl : 2 ≤ cs.length) (hl2 : cs.length ≤ 1000) (hu : us.length ≤ 1000) (hr : Rising Upd.key us) (m : Nat) (hm : (cs.length + 1) / 2 = m):
    Calls Tryz.prog 98 #[v] w fun e w' => (∃ va vb, e = .returned (.tuple #[va, vb, .string (S (lowAt cs m)), .bool true]) ∧ NodeAt w' va (cs.take m) (cutIn us [] (lowAt cs m)) ∧ NodeAt w' vb (headless (cs.drop m)) (cutOut us [] (lowAt cs m))) ∧ Below w.heap.size w w' := by
  obtain ⟨a, b, x, y, rfl, h1, h2⟩ := h
  obtain ⟨b0, off, e0, hb0, t0, -, -, -⟩ := h1.at.cells4C 0 (by omega)
  subst e0
  clear t0
  have hl' : (2 : Int) ≤ (cs.length : Int) := by omega
  have hmd : ((cs.length : Int) + 1) / 2 = (m : Int) := by omega
  have hm1 : 1 ≤ m := by omega
  have hm2 : m < cs.length := by omega
  have HCH := Lib.hid h1
  have HU := Lib.hid h2
  have hsl1 := fun W => slice_loC (some ⟨b0, off, none⟩) cs.length x m (by omega) (by obtain ⟨_, _, e, -, h3, -⟩ := h1; simp only [Value.slice.injEq] at e; omega) W
  have hsl2 := fun W => slice_hiC b0 off cs.length x m (by omega) (by obtain ⟨_, _, e, -, h3, -⟩ := h1; simp only [Value.slice.injEq] at e; omega) W
  have hkx : m < x := by obtain ⟨_, _, e, -, h3, -⟩ := h1; simp only [Value.slice.injEq] at e; omega
  clear h1 h2 hm
  go_enter Tryz.func98, Tryz.ntmps98
  go_wp2_with fail
  rw [hmd]
  obtain ⟨W, hW⟩ : ∃ W, W = ((w.alloc (.cells #[.slice (some ⟨b0, off, none⟩) cs.length x, .slice b us.length y] 105)).alloc (.cells #[.slice none 0 0, .slice none 0 0] 105)).alloc (.cells #[.slice none 0 0, .slice none 0 0] 105) := ⟨_, rfl⟩
  rw [← hW]
  have hWs : w.heap.size + 3 ≤ W.heap.size := by rw [hW]; simp
  have hWB : Below w.heap.size w W := by rw [hW]; go_grown
  have d0 : W.cell? ⟨w.heap.size, 0, none⟩ = some (.slice (some ⟨b0, off, none⟩) cs.length x) := by rw [hW, World.cell?_alloc_past _ _ _ (by simp <;> omega), World.cell?_alloc_past _ _ _ (by simp <;> omega), World.cell?_alloc_at _ _ _ _ (by simp)]; rfl
  have d1 : W.cell? ⟨w.heap.size, 1, none⟩ = some (.slice b us.length y) := by rw [hW, World.cell?_alloc_past _ _ _ (by simp <;> omega), World.cell?_alloc_past _ _ _ (by simp <;> omega), World.cell?_alloc_at _ _ _ _ (by simp)]; rfl
  have d2 : W.cell? ⟨w.heap.size + 1, 0, none⟩ = some (.slice none 0 0) := by rw [hW, World.cell?_alloc_past _ _ _ (by simp <;> omega), World.cell?_alloc_at _ _ _ _ (by simp)]; rfl
  have d3 : W.cell? ⟨w.heap.size + 1, 1, none⟩ = some (.slice none 0 0) := by rw [hW, World.cell?_alloc_past _ _ _ (by simp <;> omega), World.cell?_alloc_at _ _ _ _ (by simp)]; rfl
  have d4 : W.cell? ⟨w.heap.size + 1 + 1, 0, none⟩ = some (.slice none 0 0) := by rw [hW, World.cell?_alloc_at _ _ _ _ (by simp)]; rfl
  have d5 : W.cell? ⟨w.heap.size + 1 + 1, 1, none⟩ = some (.slice none 0 0) := by rw [hW, World.cell?_alloc_at _ _ _ _ (by simp)]; rfl
  have f2 : W.frozen? ⟨w.heap.size + 1, 0, none⟩ = false := by rw [hW, World.frozen?_alloc_past _ _ _ (by simp <;> omega), World.frozen?_alloc_at _ _ _ _ (by simp)]
  have f3 : W.frozen? ⟨w.heap.size + 1, 1, none⟩ = false := by rw [hW, World.frozen?_alloc_past _ _ _ (by simp <;> omega), World.frozen?_alloc_at _ _ _ _ (by simp)]
  have f4 : W.frozen? ⟨w.heap.size + 1 + 1, 0, none⟩ = false := by rw [hW, World.frozen?_alloc_at _ _ _ _ (by simp)]
  have f5 : W.frozen? ⟨w.heap.size + 1 + 1, 1, none⟩ = false := by rw [hW, World.frozen?_alloc_at _ _ _ _ (by simp)]
  have HD := Lib.hid (And.intro d2 (And.intro d3 (And.intro d4 (And.intro d5 (And.intro f2 (And.intro f3 (And.intro f4 f5)))))))
  clear d2 d3 d4 d5 f2 f3 f4 f5
  clear hW
  have HCW := Lib.hid (HCH.out.kept hWB (Nat.le_refl _))
  have HC1 := Lib.hid (fun W' (h : Below W.heap.size W W') => cloneC (.slice (some ⟨b0, off, none⟩) m x) (cs.take m) W' (slC_take (HCW.out.kept h (Nat.le_refl _)) m (by omega)) (by rw [List.length_take]; omega))
  have HC2 := Lib.hid (fun W' (h : Below W.heap.size W W') => cloneC (.slice (some ⟨b0, off + m * 4, none⟩) (cs.length - m) (x - m)) (cs.drop m) W' (slC_drop (HCW.out.kept h (Nat.le_refl _)) m (by omega)) (by rw [List.length_drop]; omega))
  rw [List.length_take, Nat.min_eq_left (by omega : m ≤ cs.length)] at HC1
  rw [List.length_drop] at HC2
  have hX0 : Below W.heap.size W W.drew := below_drew' (Below.refl _ _)
  go_cut [7, 8] (fun s7 s8 wx => ∃ p q w5 g4 y4 g5 y5, s7 = .pointer (some ⟨p, 0, none⟩) ∧ s8 = .pointer (some ⟨q, 0, none⟩) ∧ TwoN w5 wx p q (.slice (some ⟨g4, 0, none⟩) m y4) (.slice (some ⟨g5, 0, none⟩) (cs.length - m) y5) ∧ W.heap.size ≤ p ∧ W.heap.size ≤ q ∧ w5.ownsRow W.heap.size 179 4 (.slice (some ⟨g4, 0, none⟩) m y4) m (cellsC (cs.take m)) ∧ w5.ownsRow W.heap.size 179 4 (.slice (some ⟨g5, 0, none⟩) (cs.length - m) y5) (cs.length - m) (cellsC (cs.drop m)) ∧
    g4 < g5 ∧ g4 ≠ p ∧ g4 ≠ q ∧ g5 ≠ p ∧ g5 ≠ q ∧ Below W.heap.size W w5)
  case first =>
    go_region_held3 (fun w' => w'.cell? ⟨w.heap.size, 0, none⟩ = some (.slice (some ⟨b0, off, none⟩) cs.length x))
      (with_reducible first | assumption | exact cell_drew d0 | exact cell_drew (cell_past _ d0) | exact cell_drew (cell_past _ (cell_past _ d0)) | exact s4 | exact cell_past _ s4 | exact cell_past _ (cell_past _ s4) | exact s5 | exact cell_past _ s5 | exact cell_past _ (cell_past _ s5) | exact cell_past _ (cell_drew d0) | exact cell_past _ (cell_past _ (cell_drew d0)) | exact far_two (by omega) s5 | exact far_two (by omega) (far_two (by omega) s5) | exact far_two (by omega) (cell_past _ s5) | exact far_two (by omega) (far_two (by omega) (cell_past _ s5)) | exact far_two (by omega) (cell_past _ (cell_past _ s5)) | exact far_two (by omega) (far_two (by omega) (cell_past _ (cell_past _ s5))))
      ((go_simp; go_at_call 107; first
        | (with_reducible refine (HC1.out (W.drew) (below_drew' (Below.refl _ _))).mono ?_; rintro e w4 ⟨⟨v4, rfl, ho4⟩, hb4⟩; have hX4 : Below W.heap.size W w4 := (below_drew' (Below.refl _ _)).trans (hb4.mono (by simp <;> omega)); have hz4 := hb4.size; (try simp only [World.size_drew] at hz4); (try simp only [World.size_alloc] at hz4); obtain ⟨a4, y4, rfl⟩ := own_form ho4; obtain ⟨g4, rfl, hg4, hl4, -⟩ := own_at ho4 (by omega); (try simp only [World.size_drew] at hg4); (try simp only [World.size_alloc] at hg4); have HO4 := Lib.hid ho4; have s4 := kept_cell hX4 d0; clear ho4; clear hb4)
        | (with_reducible refine (HC1.out ((W.alloc (.cells #[.slice none 0 0, .slice none 0 0] 105)).drew) (below_drew' ((Below.refl _ _).alloc (Nat.le_refl _) _))).mono ?_; rintro e w4 ⟨⟨v4, rfl, ho4⟩, hb4⟩; have hX4 : Below W.heap.size W w4 := (below_drew' ((Below.refl _ _).alloc (Nat.le_refl _) _)).trans (hb4.mono (by simp <;> omega)); have hz4 := hb4.size; (try simp only [World.size_drew] at hz4); (try simp only [World.size_alloc] at hz4); obtain ⟨a4, y4, rfl⟩ := own_form ho4; obtain ⟨g4, rfl, hg4, hl4, -⟩ := own_at ho4 (by omega); (try simp only [World.size_drew] at hg4); (try simp only [World.size_alloc] at hg4); have HO4 := Lib.hid ho4; have s4 := kept_cell hX4 d0; clear ho4; have P0 := Lib.hid ((NilAt.new W 105 (W.heap.size) rfl).drew.on hb4); obtain ⟨pc0, pd0, pf0, pg0⟩ := P0.out; clear hb4)
        | (with_reducible refine (HC1.out (((W.alloc (.cells #[.slice none 0 0, .slice none 0 0] 105)).alloc (.cells #[.slice none 0 0, .slice none 0 0] 105)).drew) (below_drew' (((Below.refl _ _).alloc (Nat.le_refl _) _).alloc (by simp) _))).mono ?_; rintro e w4 ⟨⟨v4, rfl, ho4⟩, hb4⟩; have hX4 : Below W.heap.size W w4 := (below_drew' (((Below.refl _ _).alloc (Nat.le_refl _) _).alloc (by simp) _)).trans (hb4.mono (by simp <;> omega)); have hz4 := hb4.size; (try simp only [World.size_drew] at hz4); (try simp only [World.size_alloc] at hz4); obtain ⟨a4, y4, rfl⟩ := own_form ho4; obtain ⟨g4, rfl, hg4, hl4, -⟩ := own_at ho4 (by omega); (try simp only [World.size_drew] at hg4); (try simp only [World.size_alloc] at hg4); have HO4 := Lib.hid ho4; have s4 := kept_cell hX4 d0; clear ho4; have P0 := Lib.hid (((NilAt.new W 105 (W.heap.size) rfl).alloc (.cells #[.slice none 0 0, .slice none 0 0] 105)).drew.on hb4); have P1 := Lib.hid ((NilAt.new (W.alloc (.cells #[.slice none 0 0, .slice none 0 0] 105)) 105 (W.heap.size + 1) (by simp)).drew.on hb4); obtain ⟨pc0, pd0, pf0, pg0⟩ := P0.out; obtain ⟨pc1, pd1, pf1, pg1⟩ := P1.out; clear hb4)
        | (have _t0 := P0; have _t1 := P1; with_reducible refine (HC2.out (w4) hX4).mono ?_; rintro e w5 ⟨⟨v5, rfl, ho5⟩, hb5⟩; have hX5 : Below W.heap.size W w5 := hX4.trans (hb5.mono (by have := hX4.size; simp <;> omega)); have hz5 := hb5.size; (try simp only [World.size_alloc] at hz5); obtain ⟨a5, y5, rfl⟩ := own_form ho5; obtain ⟨g5, rfl, hg5, hl5, -⟩ := own_at ho5 (by omega); (try simp only [World.size_alloc] at hg5); have HO5 := Lib.hid ho5; have HO4' := Lib.hid (own_below (HO4.out) hb5); have s5 := kept_cell hX5 d0; clear ho5; have Q0 := Lib.hid ((P0.out).on hb5); clear pc0 pd0 pf0 pg0; obtain ⟨qc0, qd0, qf0, qg0⟩ := Q0.out; have Q1 := Lib.hid ((P1.out).on hb5); clear pc1 pd1 pf1 pg1; obtain ⟨qc1, qd1, qf1, qg1⟩ := Q1.out; obtain ⟨uc0, ud0, uf0, ug0⟩ := NilAt.far (p := W.heap.size) (q := W.heap.size + 1) Q0.out (by omega) (.slice (some ⟨g4, 0, none⟩) m y4) (.slice none 0 0); obtain ⟨vc0, vd0, vf0, vg0⟩ := NilAt.far (p := W.heap.size + 1) (q := W.heap.size) Q1.out (by omega) (.slice (some ⟨g4, 0, none⟩) m y4) (.slice none 0 0); clear hb5)
        | (have _t0 := P0; with_reducible refine (HC2.out ((w4.alloc (.cells #[.slice none 0 0, .slice none 0 0] 105))) (hX4.alloc hX4.size _)).mono ?_; rintro e w5 ⟨⟨v5, rfl, ho5⟩, hb5⟩; have hX5 : Below W.heap.size W w5 := (hX4.alloc hX4.size _).trans (hb5.mono (by have := hX4.size; simp <;> omega)); have hz5 := hb5.size; (try simp only [World.size_alloc] at hz5); obtain ⟨a5, y5, rfl⟩ := own_form ho5; obtain ⟨g5, rfl, hg5, hl5, -⟩ := own_at ho5 (by omega); (try simp only [World.size_alloc] at hg5); have HO5 := Lib.hid ho5; have HO4' := Lib.hid (own_below (HO4.out.alloc _) hb5); have s5 := kept_cell hX5 d0; clear ho5; have Q0 := Lib.hid (((P0.out.alloc (.cells #[.slice none 0 0, .slice none 0 0] 105))).on hb5); clear pc0 pd0 pf0 pg0; obtain ⟨qc0, qd0, qf0, qg0⟩ := Q0.out; have R0 := Lib.hid ((NilAt.new w4 105 (w4.heap.size) rfl).on hb5); obtain ⟨rc0, rd0, rf0, rg0⟩ := R0.out; obtain ⟨xc0, xd0, xf0, xg0⟩ := R0.out.alloc (.cells #[.slice none 0 0, .slice none 0 0] 105); obtain ⟨uc0, ud0, uf0, ug0⟩ := NilAt.far (p := W.heap.size) (q := w4.heap.size) Q0.out (by omega) (.slice (some ⟨g4, 0, none⟩) m y4) (.slice none 0 0); obtain ⟨vc0, vd0, vf0, vg0⟩ := NilAt.far (p := w4.heap.size) (q := W.heap.size) R0.out (by omega) (.slice (some ⟨g4, 0, none⟩) m y4) (.slice none 0 0); obtain ⟨mc0, md0, mf0, mg0⟩ := R0.out.alloc (.cells #[.slice (some ⟨g4, 0, none⟩) m y4, .slice none 0 0] 105); obtain ⟨hh1, hh2⟩ := R0.out.half (.slice (some ⟨g4, 0, none⟩) m y4) (.cells #[.slice none 0 0, .slice none 0 0] 105); clear hb5)
        | (have _t0 := P0; with_reducible refine (HC2.out (w4) hX4).mono ?_; rintro e w5 ⟨⟨v5, rfl, ho5⟩, hb5⟩; have hX5 : Below W.heap.size W w5 := hX4.trans (hb5.mono (by have := hX4.size; simp <;> omega)); have hz5 := hb5.size; (try simp only [World.size_alloc] at hz5); obtain ⟨a5, y5, rfl⟩ := own_form ho5; obtain ⟨g5, rfl, hg5, hl5, -⟩ := own_at ho5 (by omega); (try simp only [World.size_alloc] at hg5); have HO5 := Lib.hid ho5; have HO4' := Lib.hid (own_below (HO4.out) hb5); have s5 := kept_cell hX5 d0; clear ho5; have Q0 := Lib.hid ((P0.out).on hb5); clear pc0 pd0 pf0 pg0; obtain ⟨qc0, qd0, qf0, qg0⟩ := Q0.out; obtain ⟨xc0, xd0, xf0, xg0⟩ := Q0.out.alloc (.cells #[.slice none 0 0, .slice none 0 0] 105); obtain ⟨uc0, ud0, uf0, ug0⟩ := NilAt.far (p := W.heap.size) (q := w5.heap.size) (Q0.out.alloc (.cells #[.slice none 0 0, .slice none 0 0] 105)) (by omega) (.slice (some ⟨g4, 0, none⟩) m y4) (.slice none 0 0); obtain ⟨vc0, vd0, vf0, vg0⟩ := NilAt.far (p := w5.heap.size) (q := W.heap.size) (NilAt.new w5 105 (w5.heap.size) rfl) (by omega) (.slice (some ⟨g4, 0, none⟩) m y4) (.slice none 0 0); obtain ⟨mc0, md0, mf0, mg0⟩ := Q0.out.alloc (.cells #[.slice (some ⟨g4, 0, none⟩) m y4, .slice none 0 0] 105); obtain ⟨hh1, hh2⟩ := Q0.out.half (.slice (some ⟨g4, 0, none⟩) m y4) (.cells #[.slice none 0 0, .slice none 0 0] 105); clear hb5)
        | (with_reducible refine (HC2.out (((w4.alloc (.cells #[.slice none 0 0, .slice none 0 0] 105)).alloc (.cells #[.slice none 0 0, .slice none 0 0] 105))) ((hX4.alloc hX4.size _).alloc (by have := hX4.size; simp; omega) _)).mono ?_; rintro e w5 ⟨⟨v5, rfl, ho5⟩, hb5⟩; have hX5 : Below W.heap.size W w5 := ((hX4.alloc hX4.size _).alloc (by have := hX4.size; simp; omega) _).trans (hb5.mono (by have := hX4.size; simp <;> omega)); have hz5 := hb5.size; (try simp only [World.size_alloc] at hz5); obtain ⟨a5, y5, rfl⟩ := own_form ho5; obtain ⟨g5, rfl, hg5, hl5, -⟩ := own_at ho5 (by omega); (try simp only [World.size_alloc] at hg5); have HO5 := Lib.hid ho5; have HO4' := Lib.hid (own_below ((HO4.out.alloc _).alloc _) hb5); have s5 := kept_cell hX5 d0; clear ho5; have R0 := Lib.hid (((NilAt.new w4 105 (w4.heap.size) rfl).alloc (.cells #[.slice none 0 0, .slice none 0 0] 105)).on hb5); obtain ⟨rc0, rd0, rf0, rg0⟩ := R0.out; have R1 := Lib.hid ((NilAt.new (w4.alloc (.cells #[.slice none 0 0, .slice none 0 0] 105)) 105 (w4.heap.size + 1) (by simp)).on hb5); obtain ⟨rc1, rd1, rf1, rg1⟩ := R1.out; obtain ⟨uc0, ud0, uf0, ug0⟩ := NilAt.far (p := w4.heap.size) (q := w4.heap.size + 1) R0.out (by omega) (.slice (some ⟨g4, 0, none⟩) m y4) (.slice none 0 0); obtain ⟨vc0, vd0, vf0, vg0⟩ := NilAt.far (p := w4.heap.size + 1) (q := w4.heap.size) R1.out (by omega) (.slice (some ⟨g4, 0, none⟩) m y4) (.slice none 0 0); clear hb5)
        | (with_reducible refine (HC2.out ((w4.alloc (.cells #[.slice none 0 0, .slice none 0 0] 105))) (hX4.alloc hX4.size _)).mono ?_; rintro e w5 ⟨⟨v5, rfl, ho5⟩, hb5⟩; have hX5 : Below W.heap.size W w5 := (hX4.alloc hX4.size _).trans (hb5.mono (by have := hX4.size; simp <;> omega)); have hz5 := hb5.size; (try simp only [World.size_alloc] at hz5); obtain ⟨a5, y5, rfl⟩ := own_form ho5; obtain ⟨g5, rfl, hg5, hl5, -⟩ := own_at ho5 (by omega); (try simp only [World.size_alloc] at hg5); have HO5 := Lib.hid ho5; have HO4' := Lib.hid (own_below (HO4.out.alloc _) hb5); have s5 := kept_cell hX5 d0; clear ho5; have R0 := Lib.hid ((NilAt.new w4 105 (w4.heap.size) rfl).on hb5); obtain ⟨rc0, rd0, rf0, rg0⟩ := R0.out; obtain ⟨xc0, xd0, xf0, xg0⟩ := R0.out.alloc (.cells #[.slice none 0 0, .slice none 0 0] 105); obtain ⟨uc0, ud0, uf0, ug0⟩ := NilAt.far (p := w4.heap.size) (q := w5.heap.size) (R0.out.alloc (.cells #[.slice none 0 0, .slice none 0 0] 105)) (by omega) (.slice (some ⟨g4, 0, none⟩) m y4) (.slice none 0 0); obtain ⟨vc0, vd0, vf0, vg0⟩ := NilAt.far (p := w5.heap.size) (q := w4.heap.size) (NilAt.new w5 105 (w5.heap.size) rfl) (by omega) (.slice (some ⟨g4, 0, none⟩) m y4) (.slice none 0 0); obtain ⟨mc0, md0, mf0, mg0⟩ := R0.out.alloc (.cells #[.slice (some ⟨g4, 0, none⟩) m y4, .slice none 0 0] 105); obtain ⟨hh1, hh2⟩ := R0.out.half (.slice (some ⟨g4, 0, none⟩) m y4) (.cells #[.slice none 0 0, .slice none 0 0] 105); clear hb5)
        | (with_reducible refine (HC2.out (w4) hX4).mono ?_; rintro e w5 ⟨⟨v5, rfl, ho5⟩, hb5⟩; have hX5 : Below W.heap.size W w5 := hX4.trans (hb5.mono (by have := hX4.size; simp <;> omega)); have hz5 := hb5.size; (try simp only [World.size_alloc] at hz5); obtain ⟨a5, y5, rfl⟩ := own_form ho5; obtain ⟨g5, rfl, hg5, hl5, -⟩ := own_at ho5 (by omega); (try simp only [World.size_alloc] at hg5); have HO5 := Lib.hid ho5; have HO4' := Lib.hid (own_below (HO4.out) hb5); have s5 := kept_cell hX5 d0; clear ho5; obtain ⟨uc0, ud0, uf0, ug0⟩ := NilAt.far (p := w5.heap.size) (q := w5.heap.size + 1) ((NilAt.new w5 105 (w5.heap.size) rfl).alloc (.cells #[.slice none 0 0, .slice none 0 0] 105)) (by omega) (.slice (some ⟨g4, 0, none⟩) m y4) (.slice none 0 0); obtain ⟨vc0, vd0, vf0, vg0⟩ := NilAt.far (p := w5.heap.size + 1) (q := w5.heap.size) (NilAt.new (w5.alloc (.cells #[.slice none 0 0, .slice none 0 0] 105)) 105 (w5.heap.size + 1) (by simp)) (by omega) (.slice (some ⟨g4, 0, none⟩) m y4) (.slice none 0 0); clear hb5)))
    all_goals
      have hr4 := own_base HO4'.out (show W.heap.size ≤ _ by first | exact Nat.le_refl _ | (simp <;> omega))
      have hr5 := own_base HO5.out (show W.heap.size ≤ _ by first | exact hX4.size | (have := hX4.size; simp <;> omega))
      go_wp2_with fail
      go_meet
      refine ⟨_, _, w5, g4, y4, g5, y5, rfl, rfl, ?_, by omega, by omega, hr4, hr5, by omega, by omega, by omega, by omega, by omega, hX5⟩
      with_reducible first
        | exact TwoN.fresh _ _ _
        | exact (TwoN.fresh _ _ _).swap
        | exact TwoN.both Q0.out Q1.out (by omega) _ _
        | exact TwoN.both Q1.out Q0.out (by omega) _ _
        | exact TwoN.both Q0.out R0.out (by omega) _ _
        | exact TwoN.both R0.out Q0.out (by omega) _ _
        | exact TwoN.both R0.out R1.out (by omega) _ _
        | exact TwoN.both R1.out R0.out (by omega) _ _
        | exact TwoN.old Q0.out _ _ _
        | exact TwoN.old R0.out _ _ _
        | exact TwoN.new Q0.out _ _ _
        | exact TwoN.new R0.out _ _ _
  case rest =>
    obtain ⟨p, q, w5, g4, y4, g5, y5, rfl, rfl, tw, hpW, hqW, hr4, hr5, h45, h4p, h4q, h5p, h5q, hX5⟩ := hcut
    obtain ⟨d2, d3, d4, d5, f2, f3, f4, f5⟩ := HD.out
    have hb4 := (hr4.lt g4 rfl).1
    have hb5 := (hr5.lt g5 rfl).1
    have row4 := tw.row hr4 (by simp [Value.ownBlock]; exact h4p) (by simp [Value.ownBlock]; exact h4q)
    have row5 := tw.row hr5 (by simp [Value.ownBlock]; exact h5p) (by simp [Value.ownBlock]; exact h5q)
    have hXc := tw.below hX5 hpW hqW hX5.size
    have HROW4 := Lib.hid row4
    have HROW5 := Lib.hid row5
    have hdl : 0 < (cs.drop m).length := by rw [List.length_drop]; omega
    have k0 : wc.cell? ⟨g5, 0, none⟩ = some (.string (S (lowAt cs m))) := by
      rw [row5.cellAt 0 (by omega)]
      have e : cs.drop m = cs[m] :: cs.drop (m + 1) := List.drop_eq_getElem_cons hm2
      rw [e]
      unfold lowAt
      rw [List.getElem?_eq_getElem hm2]
      rfl
    have kf := row5.frozenAt 0
    have p0 := tw.a0
    have p1 := tw.a1
    have q0 := tw.b0
    have q1 := tw.b1
    have pf := tw.fa
    have qf := tw.fb
    have hpq := tw.ne
    have hc1 := (cell_below hXc (by omega : w.heap.size < W.heap.size) 1).trans d1
    have e2 : wc.cell? ⟨w.heap.size + 1, 0, none⟩ = some (.slice none 0 0) := (cell_below hXc (by omega : w.heap.size + 1 < W.heap.size) 0).trans d2
    have e3 : wc.cell? ⟨w.heap.size + 1, 1, none⟩ = some (.slice none 0 0) := (cell_below hXc (by omega : w.heap.size + 1 < W.heap.size) 1).trans d3
    have e4 : wc.cell? ⟨w.heap.size + 1 + 1, 0, none⟩ = some (.slice none 0 0) := (cell_below hXc (by omega : w.heap.size + 1 + 1 < W.heap.size) 0).trans d4
    have e5 : wc.cell? ⟨w.heap.size + 1 + 1, 1, none⟩ = some (.slice none 0 0) := (cell_below hXc (by omega : w.heap.size + 1 + 1 < W.heap.size) 1).trans d5
    have hfz : ∀ b o, b < W.heap.size → wc.frozen? ⟨b, o, none⟩ = W.frozen? ⟨b, o, none⟩ := fun b o h => World.frozen?_of_block (hXc.block b h)
    have i2 := (hfz (w.heap.size + 1) 0 (by omega)).trans f2
    have i3 := (hfz (w.heap.size + 1) 1 (by omega)).trans f3
    have i4 := (hfz (w.heap.size + 1 + 1) 0 (by omega)).trans f4
    have i5 := (hfz (w.heap.size + 1 + 1) 1 (by omega)).trans f5
    have HXc := Lib.hid hXc
    have hzc := hXc.size
    clear hr4 hr5 tw row4 row5 hX5 hXc hfz d0 d1 d2 d3 d4 d5 f2 f3 f4 f5 hX0
    generalize hlow : lowAt cs m = low at *
    have HLOW := Lib.hid hlow
    clear hlow
    go_upto_region 7 with (fail)
    obtain ⟨ws, hws⟩ : ∃ ws, ws = wc.setCell ⟨g5, 0, none⟩ (.string ⟨#[]⟩) := ⟨_, rfl⟩
    rw [← hws]
    have hg5c : g5 < wc.heap.size := World.block_lt_of_cell? wc _ k0
    have P0 : ws.cell? ⟨p, 0, none⟩ = some (.slice (some ⟨g4, 0, none⟩) m y4) := by rw [hws, World.cell?_setCell_other _ _ _ _ (addr_ne (Or.inl h5p))]; exact p0
    have P1 : ws.cell? ⟨p, 1, none⟩ = some (.slice none 0 0) := by rw [hws, World.cell?_setCell_other _ _ _ _ (addr_ne (Or.inl h5p))]; exact p1
    have Q0 : ws.cell? ⟨q, 0, none⟩ = some (.slice (some ⟨g5, 0, none⟩) (cs.length - m) y5) := by rw [hws, World.cell?_setCell_other _ _ _ _ (addr_ne (Or.inl h5q))]; exact q0
    have Q1 : ws.cell? ⟨q, 1, none⟩ = some (.slice none 0 0) := by rw [hws, World.cell?_setCell_other _ _ _ _ (addr_ne (Or.inl h5q))]; exact q1
    have PF : ws.frozen? ⟨p, 1, none⟩ = false := by rw [hws, World.frozen?_setCell]; exact pf
    have QF : ws.frozen? ⟨q, 1, none⟩ = false := by rw [hws, World.frozen?_setCell]; exact qf
    have C1 : ws.cell? ⟨w.heap.size, 1, none⟩ = some (.slice b us.length y) := by rw [hws, World.cell?_setCell_other _ _ _ _ (addr_ne (Or.inl (by omega)))]; exact hc1
    have E2 : ws.cell? ⟨w.heap.size + 1, 0, none⟩ = some (.slice none 0 0) := by rw [hws, World.cell?_setCell_other _ _ _ _ (addr_ne (Or.inl (by omega)))]; exact e2
    have E3 : ws.cell? ⟨w.heap.size + 1, 1, none⟩ = some (.slice none 0 0) := by rw [hws, World.cell?_setCell_other _ _ _ _ (addr_ne (Or.inl (by omega)))]; exact e3
    have E4 : ws.cell? ⟨w.heap.size + 1 + 1, 0, none⟩ = some (.slice none 0 0) := by rw [hws, World.cell?_setCell_other _ _ _ _ (addr_ne (Or.inl (by omega)))]; exact e4
    have E5 : ws.cell? ⟨w.heap.size + 1 + 1, 1, none⟩ = some (.slice none 0 0) := by rw [hws, World.cell?_setCell_other _ _ _ _ (addr_ne (Or.inl (by omega)))]; exact e5
    have I2 : ws.frozen? ⟨w.heap.size + 1, 0, none⟩ = false := by rw [hws, World.frozen?_setCell]; exact i2
    have I3 : ws.frozen? ⟨w.heap.size + 1, 1, none⟩ = false := by rw [hws, World.frozen?_setCell]; exact i3
    have I4 : ws.frozen? ⟨w.heap.size + 1 + 1, 0, none⟩ = false := by rw [hws, World.frozen?_setCell]; exact i4
    have I5 : ws.frozen? ⟨w.heap.size + 1 + 1, 1, none⟩ = false := by rw [hws, World.frozen?_setCell]; exact i5
    have hrow5 := (HROW5.out.stored 0 (.string ⟨#[]⟩)).1
    rw [cells_headless _ hdl, ← hws] at hrow5
    have hrow4 := ownsRow_setCell_other (a := ⟨g5, 0, none⟩) HROW4.out (fun e => by simp [Value.ownBlock] at e; omega) (.string ⟨#[]⟩)
    rw [← hws] at hrow4
    have S4 := Lib.hid (slC_row hrow4).2
    have S5 := Lib.hid (slC_row hrow5).2
    have hBs : Below w.heap.size w ws := by rw [hws]; exact (hWB.trans (HXc.out.mono (by omega))).setCell (p := ⟨g5, 0, none⟩) (by show w.heap.size ≤ g5; omega) _
    have hzs : wc.heap.size = ws.heap.size := by rw [hws, World.size_setCell]
    have hzs' : wc.heap.size ≤ ws.heap.size := by omega
    have hpl := World.block_lt_of_cell? ws _ P0
    have hql := World.block_lt_of_cell? ws _ Q0
    have HUs := Lib.hid (HU.out.kept hBs (Nat.le_refl _))
    have HBs := Lib.hid hBs
    clear hws hzs p0 p1 q0 q1 pf qf hc1 e2 e3 e4 e5 i2 i3 i4 i5 hrow4 hrow5 k0 kf HROW4 HROW5 HXc hdl hBs
    have hcu := fun W' h => cut_next b _ y us [] low W' rfl h hu hr
    have HCU := Lib.hid hcu
    clear hcu hr
    generalize hI : cutIn us [] low = I at *
    generalize hO : cutOut us [] low = O at *
    have HI := Lib.hid hI
    have HO := Lib.hid hO
    clear hI hO
    go_wp2_with fail
    refine (thread (HCU.out ws (BoxU.mk ⟨_, rfl, HUs.out⟩)) ws.heap.size ws (by go_grown) (by go_grown)).mono ?_
    rintro e w7 ⟨⟨a1, z1, a2, z2, rfl, hi7, ho7⟩, hX7, -, -, hs7, hz7⟩
    have m0 := kept_cell hX7 P0
    have m1 := kept_cell hX7 P1
    have m2 := kept_cell hX7 Q0
    have m3 := kept_cell hX7 Q1
    have mf := ((bcell hX7).2 p 1 hpl).trans PF
    have mg := ((bcell hX7).2 q 1 hql).trans QF
    have n2 := kept_cell hX7 E2
    have n3 := kept_cell hX7 E3
    have n4 := kept_cell hX7 E4
    have n5 := kept_cell hX7 E5
    have o2 := ((bcell hX7).2 (w.heap.size + 1) 0 (by omega)).trans I2
    have o3 := ((bcell hX7).2 (w.heap.size + 1) 1 (by omega)).trans I3
    have o4 := ((bcell hX7).2 (w.heap.size + 1 + 1) 0 (by omega)).trans I4
    have o5 := ((bcell hX7).2 (w.heap.size + 1 + 1) 1 (by omega)).trans I5
    have HB7 := Lib.hid (And.intro hi7 (And.intro ho7 (And.intro (S4.out.kept hX7 (Nat.le_refl _)) (S5.out.kept hX7 (Nat.le_refl _)))))
    have HX7 := Lib.hid (HBs.out.trans (hX7.mono (by omega)))
    clear hi7 ho7 hX7 P0 P1 Q0 Q1 PF QF C1 E2 E3 E4 E5 I2 I3 I4 I5 S4 S5 HCU
    have hqp : ¬ q = p := fun e => hpq e.symm
    go_upto_region 8 with (fail)
    obtain ⟨wz, hwz⟩ : ∃ wz, wz = (w7.setCell ⟨p, 1, none⟩ (.slice a1 I.length z1)).setCell ⟨q, 1, none⟩ (.slice a2 O.length z2) := ⟨_, rfl⟩
    rw [← hwz]
    have m3' : (w7.setCell ⟨p, 1, none⟩ (.slice a1 I.length z1)).cell? ⟨q, 1, none⟩ = some (.slice none 0 0) := (World.cell?_setCell_other _ _ _ _ (addr_ne (Or.inl hpq))).trans m3
    have P0 : wz.cell? ⟨p, 0, none⟩ = some (.slice (some ⟨g4, 0, none⟩) m y4) := by rw [hwz, World.cell?_setCell_other _ _ _ _ (addr_ne (Or.inl hqp)), World.cell?_setCell_other _ _ _ _ (addr_ne (Or.inr (by decide)))]; exact m0
    have P1 : wz.cell? ⟨p, 1, none⟩ = some (.slice a1 I.length z1) := by rw [hwz, World.cell?_setCell_other _ _ _ _ (addr_ne (Or.inl hqp))]; exact World.cell?_setCell_same _ _ _ m1
    have Q0 : wz.cell? ⟨q, 0, none⟩ = some (.slice (some ⟨g5, 0, none⟩) (cs.length - m) y5) := by rw [hwz, World.cell?_setCell_other _ _ _ _ (addr_ne (Or.inr (by decide))), World.cell?_setCell_other _ _ _ _ (addr_ne (Or.inl hpq))]; exact m2
    have Q1 : wz.cell? ⟨q, 1, none⟩ = some (.slice a2 O.length z2) := by rw [hwz]; exact World.cell?_setCell_same _ _ _ m3'
    have E2 : wz.cell? ⟨w.heap.size + 1, 0, none⟩ = some (.slice none 0 0) := by rw [hwz, World.cell?_setCell_other _ _ _ _ (addr_ne (Or.inl (by omega))), World.cell?_setCell_other _ _ _ _ (addr_ne (Or.inl (by omega)))]; exact n2
    have E3 : wz.cell? ⟨w.heap.size + 1, 1, none⟩ = some (.slice none 0 0) := by rw [hwz, World.cell?_setCell_other _ _ _ _ (addr_ne (Or.inl (by omega))), World.cell?_setCell_other _ _ _ _ (addr_ne (Or.inl (by omega)))]; exact n3
    have E4 : wz.cell? ⟨w.heap.size + 1 + 1, 0, none⟩ = some (.slice none 0 0) := by rw [hwz, World.cell?_setCell_other _ _ _ _ (addr_ne (Or.inl (by omega))), World.cell?_setCell_other _ _ _ _ (addr_ne (Or.inl (by omega)))]; exact n4
    have E5 : wz.cell? ⟨w.heap.size + 1 + 1, 1, none⟩ = some (.slice none 0 0) := by rw [hwz, World.cell?_setCell_other _ _ _ _ (addr_ne (Or.inl (by omega))), World.cell?_setCell_other _ _ _ _ (addr_ne (Or.inl (by omega)))]; exact n5
    have I2 : wz.frozen? ⟨w.heap.size + 1, 0, none⟩ = false := by rw [hwz, World.frozen?_setCell, World.frozen?_setCell]; exact o2
    have I3 : wz.frozen? ⟨w.heap.size + 1, 1, none⟩ = false := by rw [hwz, World.frozen?_setCell, World.frozen?_setCell]; exact o3
    have I4 : wz.frozen? ⟨w.heap.size + 1 + 1, 0, none⟩ = false := by rw [hwz, World.frozen?_setCell, World.frozen?_setCell]; exact o4
    have I5 : wz.frozen? ⟨w.heap.size + 1 + 1, 1, none⟩ = false := by rw [hwz, World.frozen?_setCell, World.frozen?_setCell]; exact o5
    have HZ := Lib.hid (show BoxU wz (.agg #[.slice a1 I.length z1]) I ∧ BoxU wz (.agg #[.slice a2 O.length z2]) O ∧ SlC wz (.slice (some ⟨g4, 0, none⟩) m y4) (cs.take m) ∧ SlC wz (.slice (some ⟨g5, 0, none⟩) (cs.length - m) y5) (headless (cs.drop m)) from by
      rw [hwz]
      exact ⟨(HB7.out.1.setAt m1 _).setAt m3' _, (HB7.out.2.1.setAt m1 _).setAt m3' _, (HB7.out.2.2.1.setAt m1 _).setAt m3' _, (HB7.out.2.2.2.setAt m1 _).setAt m3' _⟩)
    have HXZ := Lib.hid (show Below w.heap.size w wz by rw [hwz]; exact (HX7.out.setCell (p := ⟨p, 1, none⟩) (by show w.heap.size ≤ p; omega) _).setCell (p := ⟨q, 1, none⟩) (by show w.heap.size ≤ q; omega) _)
    have hpN : w.heap.size + 3 ≤ p := by omega
    have hqN : w.heap.size + 3 ≤ q := by omega
    clear hwz m0 m1 m2 m3 m3' mf mg n2 n3 n4 n5 o2 o3 o4 o5 HB7 HX7 hs7 hz7 hzs' hpl hql HUs HBs hzc hg5c hpW hqW h4p h4q h5p h5q hb4 hb5 h45 hsl1 hsl2 hkx hWs hWB
    have hne1 : ¬ w.heap.size + 1 = p := by omega
    have hne2 : ¬ w.heap.size + 1 = q := by omega
    have hne3 : ¬ w.heap.size + 1 + 1 = p := by omega
    have hne4 : ¬ w.heap.size + 1 + 1 = q := by omega
    go_region
    all_goals
      go_wp2_with fail
      have t3 : (wz.setCell ⟨w.heap.size + 1, 0, none⟩ (.slice (some ⟨g4, 0, none⟩) m y4)).cell? ⟨w.heap.size + 1, 1, none⟩ = some (.slice none 0 0) := (World.cell?_setCell_other _ _ _ _ (addr_ne (Or.inr (by decide)))).trans E3
      have t4 : ((wz.setCell ⟨w.heap.size + 1, 0, none⟩ (.slice (some ⟨g4, 0, none⟩) m y4)).setCell ⟨w.heap.size + 1, 1, none⟩ (.slice a1 I.length z1)).cell? ⟨w.heap.size + 1 + 1, 0, none⟩ = some (.slice none 0 0) := (World.cell?_setCell_other _ _ _ _ (addr_ne (Or.inl (by omega)))).trans ((World.cell?_setCell_other _ _ _ _ (addr_ne (Or.inl (by omega)))).trans E4)
      have t5 : (((wz.setCell ⟨w.heap.size + 1, 0, none⟩ (.slice (some ⟨g4, 0, none⟩) m y4)).setCell ⟨w.heap.size + 1, 1, none⟩ (.slice a1 I.length z1)).setCell ⟨w.heap.size + 1 + 1, 0, none⟩ (.slice (some ⟨g5, 0, none⟩) (cs.length - m) y5)).cell? ⟨w.heap.size + 1 + 1, 1, none⟩ = some (.slice none 0 0) := (World.cell?_setCell_other _ _ _ _ (addr_ne (Or.inr (by decide)))).trans ((World.cell?_setCell_other _ _ _ _ (addr_ne (Or.inl (by omega)))).trans ((World.cell?_setCell_other _ _ _ _ (addr_ne (Or.inl (by omega)))).trans E5))
      have hE := (((HXZ.out.setCell (p := ⟨w.heap.size + 1, 0, none⟩) (by simp) (.slice (some ⟨g4, 0, none⟩) m y4)).setCell (p := ⟨w.heap.size + 1, 1, none⟩) (by simp) (.slice a1 I.length z1)).setCell (p := ⟨w.heap.size + 1 + 1, 0, none⟩) (by simp; omega) (.slice (some ⟨g5, 0, none⟩) (cs.length - m) y5)).setCell (p := ⟨w.heap.size + 1 + 1, 1, none⟩) (by simp; omega) (.slice a2 O.length z2)
      have hI := (((HZ.out.1.setAt E2 (.slice (some ⟨g4, 0, none⟩) m y4)).setAt t3 (.slice a1 I.length z1)).setAt t4 (.slice (some ⟨g5, 0, none⟩) (cs.length - m) y5)).setAt t5 (.slice a2 O.length z2)
      have hO := (((HZ.out.2.1.setAt E2 (.slice (some ⟨g4, 0, none⟩) m y4)).setAt t3 (.slice a1 I.length z1)).setAt t4 (.slice (some ⟨g5, 0, none⟩) (cs.length - m) y5)).setAt t5 (.slice a2 O.length z2)
      have hC := (((HZ.out.2.2.1.setAt E2 (.slice (some ⟨g4, 0, none⟩) m y4)).setAt t3 (.slice a1 I.length z1)).setAt t4 (.slice (some ⟨g5, 0, none⟩) (cs.length - m) y5)).setAt t5 (.slice a2 O.length z2)
      have hD := (((HZ.out.2.2.2.setAt E2 (.slice (some ⟨g4, 0, none⟩) m y4)).setAt t3 (.slice a1 I.length z1)).setAt t4 (.slice (some ⟨g5, 0, none⟩) (cs.length - m) y5)).setAt t5 (.slice a2 O.length z2)
      obtain ⟨sI, eI, hI'⟩ := hI
      simp only [Value.agg.injEq, Array.mk.injEq, List.cons.injEq, and_true] at eI
      subst eI
      obtain ⟨sO, eO, hO'⟩ := hO
      simp only [Value.agg.injEq, Array.mk.injEq, List.cons.injEq, and_true] at eO
      subst eO
      refine bodyPost_ret (v := .tuple #[.agg #[.slice (some ⟨g4, 0, none⟩) m y4, .slice a1 I.length z1], .agg #[.slice (some ⟨g5, 0, none⟩) (cs.length - m) y5, .slice a2 O.length z2], .string (S low), .bool true]) ?_ rfl ⟨⟨.agg #[.slice (some ⟨g4, 0, none⟩) m y4, .slice a1 I.length z1], .agg #[.slice (some ⟨g5, 0, none⟩) (cs.length - m) y5, .slice a2 O.length z2], ?_, ?_, ?_⟩, below_drew' hE⟩
      · simp [results, Tryz.results98, go_sem, E2, E3, E4, E5]
      · rw [HLOW.out]
      · rw [HLOW.out, HI.out]; exact (NodeAt.mk' hC hI').kept (below_drew' (Below.refl _ _)) (Nat.le_refl _)
      · rw [HLOW.out, HO.out]; exact (NodeAt.mk' hD hO').kept (below_drew' (Below.refl _ _)) (Nat.le_refl _)

end Go.Proofs.YtafciefjlkdecaaGreat
