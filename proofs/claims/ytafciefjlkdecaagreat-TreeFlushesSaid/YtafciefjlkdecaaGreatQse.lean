/-
  What turns in memory where something is done to a vertex; what is done to a child is done to its vertex. The walk of hold: a vertex at a height is in memory. The walks of an update of a tree of one leaf: hold, room, soil, give, top, Apply. Addresses that are gone: one more; the walk of soil. The walks of a scan of all keys: within, meets, entries. The walks of Get: where the first load fails; of a leaf. The walk of a scan where every load gives the same: there is no leaf. A scan in memory: its own struct, its entries so far. The walk of a scan's entries of a leaf. What stays while a scan goes on; fetch within a scan. The walk of a scan's vertex, whatever tree. The walk of give: messages come into a vertex. The walks of slices.Grow (of nil), of slices.Concat (of three slices), and of slices.Clone, of children and of vertices. The walk of put: vertices stand in the place of a child. The walk of parts: a leaf of too many entries, in parts.
-/
import Derived.Deep.RegionHeld3
import Derived.Deep.Cut
import Derived.Deep.DeepCutAuto
import Derived.Deep.CutBlock
import Derived.BigQuiet
import Derived.Test.YtafciefjlkdecaaGreatQsd
set_option maxRecDepth 100000
set_option maxHeartbeats 16000000
namespace Go.Proofs.YtafciefjlkdecaaGreat
open Go.RowKit
theorem nodup_swap {P Q Q' R : List Nat} {N : Nat} (h : (P ++ (Q ++ R)).Nodup) (hQ : Q'.Nodup) (hf : ∀ b ∈ Q', b ∈ Q ∨ N ≤ b) (hP : ∀ b ∈ P, b < N) (hR : ∀ b ∈ R, b < N) : (P ++ (Q' ++ R)).Nodup := by
 rw [List.nodup_append] at h ⊢
 obtain ⟨h1, h2, h3⟩ := h
 rw [List.nodup_append] at h2 ⊢
 obtain ⟨k1, k2, k3⟩ := h2
 refine ⟨h1, ⟨hQ, k2, fun a ha b hb e => ?_⟩, fun a ha b hb e => ?_⟩
 ·rcases hf a ha with q | q
  ·exact k3 a q b hb e
  ·have := hR b hb; omega
 ·rcases List.mem_append.1 hb with q | q
  ·rcases hf b q with q | q
   ·exact h3 a ha b (List.mem_append_left _ q) e
   ·have := hP a ha; omega
  ·exact h3 a ha b (List.mem_append_right _ q) e
def blocksK (n : Nat) (l : List (Chd × Vt)) : List Nat := l.flatMap fun x => blocks n x.2
theorem blocksK_append (n : Nat) (a b : List (Chd × Vt)) : blocksK n (a ++ b) = blocksK n a ++ blocksK n b := by simp [blocksK]
theorem blocksK_cons (n : Nat) (x : Chd × Vt) (l : List (Chd × Vt)) : blocksK n (x :: l) = blocks n x.2 ++ blocksK n l := rfl
theorem blocksK_fix (n : Nat) (l : List (Chd × Vt)) : blocksK n (fixHead l) = blocksK n l := flat_fix (blocks n) l
theorem blocks_at {n : Nat} {v : Vt} (hm : v.mem = true) : blocks (n + 1) v = v.b :: blocksK n v.ch := blocks_succ n v hm
theorem MNode.like {w : World} {v v' : Vt} (h : MNode w v) (h1 : v'.b = v.b) (h2 : v'.ld = v.ld) (h3 : v'.kn = v.kn) (h4 : v'.us = v.us) (h5 : v'.cs = v.cs) (h6 : v'.ch.map (fun x => x.2.b) = v.ch.map (fun x => x.2.b)) : MNode w v' := by
 have hl : v'.ch.length = v.ch.length := by
  have := congrArg List.length h5
  rwa [List.length_map, List.length_map] at this
 obtain ⟨g, pa, pg, ps, a1, c1, a2, c2, a3, c3, g1, g2, g3, g4⟩ := h
 refine ⟨by rw [h2]; exact g, pa, pg, ps, a1, c1, a2, c2, a3, c3, ?_, ?_, ?_, ?_⟩
 ·rw [h1, h3, hl, h4]; exact g1
 ·rw [h3]; exact g2
 ·rw [hl, h4, h5]; exact g3
 ·rw [hl, h6]; exact g4
structure Mv (K : Kx) (root h n : Nat) (w : World) (v : Vt) (T : Tx) (w' : World) (v' : Vt) (T' : Tx) : Prop where
 mem : Mem w' n v'
 nodup : (blocks n v').Nodup
 fresh : ∀ b ∈ blocks n v', b ∈ blocks n v ∨ w.heap.size ≤ b
 b : v'.b = v.b
 cx : CAt w' K root h T'
 gvb : ∀ x, T'.gv.ownBlock = some x → T.gv.ownBlock = some x ∨ w.heap.size ≤ x
 keep : Keep (fun x => Own K T x ∨ x ∈ blocks n v) w w'
section
variable {K : Kx} {root h n : Nat} {w w1 w2 : World} {v v1 v2 : Vt} {T T1 T2 : Tx}
theorem Mv.refl (hm : Mem w n v) (hn : (blocks n v).Nodup) (c : CAt w K root h T) : Mv K root h n w v T w v T :=
 ⟨hm, hn, fun _ q => Or.inl q, rfl, c, fun _ q => Or.inl q, Keep.refl _ _⟩
theorem Mv.trans (a : Mv K root h n w v T w1 v1 T1) (b : Mv K root h n w1 v1 T1 w2 v2 T2) : Mv K root h n w v T w2 v2 T2 := by
 have hs := a.keep.size
 refine ⟨b.mem, b.nodup, fun x hx => ?_, b.b.trans a.b, b.cx, fun x hx => ?_, a.keep.trans b.keep fun x hx => ?_⟩
 ·rcases b.fresh x hx with q | q
  ·exact a.fresh x q
  ·exact Or.inr (by omega)
 ·rcases b.gvb x hx with q | q
  ·exact a.gvb x q
  ·exact Or.inr (by omega)
 ·rcases hx with (q | q | q) | q
  ·exact Or.inl (Or.inl (Or.inl q))
  ·exact Or.inl (Or.inl (Or.inr (Or.inl q)))
  ·rcases a.gvb x q with k | k
   ·exact Or.inl (Or.inl (Or.inr (Or.inr k)))
   ·exact Or.inr k
  ·rcases a.fresh x q with k | k
   ·exact Or.inl (Or.inr k)
   ·exact Or.inr k
theorem Mv.on (a : Mv K root h n w v T w1 v1 T1) (hb : Below w1.heap.size w1 w2) : Mv K root h n w v T w2 v1 T1 :=
 ⟨a.mem.on hb, a.nodup, a.fresh, a.b, a.cx.on hb, a.gvb, a.keep.on hb⟩
end
theorem Mv.kid {K : Kx} {root h n : Nat} {w w' : World} {v : Vt} {A : List (Chd × Vt)} {c : Chd} {t t' : Vt} {D : List (Chd × Vt)} {T T' : Tx} (hm : Mem w (n + 1) v) (hl : v.ld = true) (hn : (blocks (n + 1) v).Nodup) (c0 : CAt w K root h T) (e : v.ch = A ++ (c, t) :: D) (m : Mv K root h n w t T w' t' T') :
  Mv K root h (n + 1) w v T w' { v with ch := A ++ (c, t') :: D } T' := by
 obtain ⟨q, kids⟩ : MNode w v ∧ ∀ x ∈ v.ch, Mem w n x.2 := by
  rcases hm.2 with q | q
  ·exact q
  ·rw [q.1.ld] at hl; cases hl
 have hin := hm.in
 have hb := blocks_at (n := n) hin
 have hb' : blocks (n + 1) { v with ch := A ++ (c, t') :: D } = v.b :: blocksK n (A ++ (c, t') :: D) := blocks_at (n := n) (v := { v with ch := A ++ (c, t') :: D }) hin
 have hlt := hm.lt
 have hn0 := hn
 rw [hb, e, blocksK_append, blocksK_cons, List.nodup_cons] at hn
 obtain ⟨hn1, hn2⟩ := hn
 have hAt : ∀ x ∈ A, ∀ b ∈ blocks n x.2, b ∉ blocks n t := fun x hx b hbx hbt => by
  have := (List.nodup_append.1 hn2).2.2 b (List.mem_flatMap.2 ⟨x, hx, hbx⟩) b (List.mem_append_left _ hbt)
  exact this rfl
 have hDt : ∀ x ∈ D, ∀ b ∈ blocks n x.2, b ∉ blocks n t := fun x hx b hbx hbt => by
  have := (List.nodup_append.1 (List.nodup_append.1 hn2).2.1).2.2 b hbt b (List.mem_flatMap.2 ⟨x, hx, hbx⟩)
  exact this rfl
 have hcell := hm.cells
 have hSoft : ∀ b, (Own K T b ∨ b ∈ blocks n t) → Soft w b := fun b hb2 => hb2.elim (fun q => (c0.soft b q).1) (fun q => (hlt b (mem_flat hin (x := (c, t)) (by rw [e]; simp) q)).1)
 have hvb : ¬ (Own K T v.b ∨ v.b ∈ blocks n t) := fun hq => by
  rcases hq with hq | hq
  ·obtain ⟨cur, hc⟩ := hcell v.b hm.head
   exact (c0.notVx hc).1 hq
  ·exact hn1 (List.mem_append_right _ (List.mem_append_left _ hq))
 have hother : ∀ x ∈ v.ch, (∀ b ∈ blocks n x.2, b ∉ blocks n t) → Mem w' n x.2 := fun x hx hd => (kids x hx).keep m.keep hSoft fun b hbx hq => by
  rcases hq with hq | hq
  ·obtain ⟨cur, hc⟩ := hcell b (mem_flat hin hx hbx)
   exact (c0.notVx hc).1 hq
  ·exact hd b hbx hq
 refine ⟨⟨hin, Or.inl ⟨(q.keep m.keep hSoft hvb).like rfl rfl rfl rfl ?_ ?_, fun x hx => ?_⟩⟩, ?_, fun b hbx => ?_, rfl, m.cx, m.gvb, ?_⟩
 ·rw [Vt.cs, Vt.cs, e]; simp
 ·rw [e]; simp [m.b]
 ·have hx' : x ∈ A ++ (c, t') :: D := hx
  rcases List.mem_append.1 hx' with hx' | hx'
  ·exact hother x (by rw [e]; exact List.mem_append_left _ hx') (hAt x hx')
  ·rcases List.mem_cons.1 hx' with rfl | hx'
   ·exact m.mem
   ·exact hother x (by rw [e]; simp [hx']) (hDt x hx')
 ·rw [hb', blocksK_append, blocksK_cons, List.nodup_cons]
  have hltA : ∀ b ∈ blocksK n A, b < w.heap.size := fun b hbx => by
   obtain ⟨x, hx, hbx⟩ := List.mem_flatMap.1 hbx
   exact (hlt b (mem_flat hin (x := x) (by rw [e]; exact List.mem_append_left _ hx) hbx)).2
  have hltD : ∀ b ∈ blocksK n D, b < w.heap.size := fun b hbx => by
   obtain ⟨x, hx, hbx⟩ := List.mem_flatMap.1 hbx
   exact (hlt b (mem_flat hin (x := x) (by rw [e]; simp [hx]) hbx)).2
  refine ⟨fun hq => ?_, nodup_swap hn2 m.nodup m.fresh hltA hltD⟩
  rcases List.mem_append.1 hq with hq | hq
  ·exact hn1 (List.mem_append_left _ hq)
  ·rcases List.mem_append.1 hq with hq | hq
   ·rcases m.fresh _ hq with k | k
    ·exact hn1 (List.mem_append_right _ (List.mem_append_left _ k))
    ·have := (hlt v.b hm.head).2
     omega
   ·exact hn1 (List.mem_append_right _ (List.mem_append_right _ hq))
 ·rw [hb', blocksK_append, blocksK_cons] at hbx
  rw [hb, e, blocksK_append, blocksK_cons]
  simp only [List.mem_cons, List.mem_append] at hbx ⊢
  rcases hbx with k | k | k | k
  ·exact Or.inl (Or.inl k)
  ·exact Or.inl (Or.inr (Or.inl k))
  ·rcases m.fresh b k with j | j
   ·exact Or.inl (Or.inr (Or.inr (Or.inl j)))
   ·exact Or.inr j
  ·exact Or.inl (Or.inr (Or.inr (Or.inr k)))
 ·exact m.keep.mono fun x hx => hx.imp id fun q => mem_flat hin (x := (c, t)) (by rw [e]; simp) q
open Go.RowKit
attribute [local go_sem ↓] Go.wp_at_zero Go.wp_at_succ
theorem Mem.vxAt {w : World} {n : Nat} {v : Vt} (h : Mem w n v) : ∃ pa pg ps a1 n1 c1 a2 n2 c2 a3 n3 c3 a4 n4 c4, VxAt w v.b v.kn.isSome pa pg ps v.ld (.slice a1 n1 c1) (.slice a2 n2 c2) (.slice a3 n3 c3) (.slice a4 n4 c4) := by
 cases n with
 | zero =>
  rcases h.2 with q | q
  ·obtain ⟨pa, pg, ps, a, x, h1, -⟩ := q.ex
   exact ⟨pa, pg, ps, _, _, _, _, _, _, _, _, _, _, _, _, by rw [q.ld]; exact h1⟩
  ·obtain ⟨p, hk, h1⟩ := q.ex
   exact ⟨p.a, p.g, p.s, _, _, _, _, _, _, _, _, _, _, _, _, by rw [q.ld, hk]; exact h1⟩
 | succ n =>
  rcases h.2 with ⟨q, -⟩ | ⟨q, -⟩
  ·obtain ⟨pa, pg, ps, a1, x1, a2, x2, a3, x3, h1, -⟩ := q.ex
   exact ⟨pa, pg, ps, _, _, _, _, _, _, _, _, _, _, _, _, by rw [q.ld]; exact h1⟩
  ·obtain ⟨p, hk, h1⟩ := q.ex
   exact ⟨p.a, p.g, p.s, _, _, _, _, _, _, _, _, _, _, _, _, by rw [q.ld, hk]; exact h1⟩
theorem VxAt.one {w : World} {b : Nat} {kn kn' : Bool} {pa pa' : Int} {pg ps pg' ps' : Nat} {ld ld' : Bool} {lf cs us ks lf' cs' us' ks' : Value} (h : VxAt w b kn pa pg ps ld lf cs us ks) (h' : VxAt w b kn' pa' pg' ps' ld' lf' cs' us' ks') : kn = kn' ∧ pa = pa' ∧ pg = pg' ∧ ps = ps' ∧ ld = ld' ∧ lf = lf' ∧ cs = cs' ∧ us = us' ∧ ks = ks' := by
 have := (h.row.one h'.row).2
 simp only [vxCells, List.cons.injEq, Value.bool.injEq, Value.int.injEq, true_and, and_true] at this
 obtain ⟨e1, e2, e3, e4, e5, e6, e7, e8, e9⟩ := this
 exact ⟨e1, e2, by omega, by omega, e5, e6, e7, e8, e9⟩
theorem blocks_move (n : Nat) (v : Vt) (hm : v.mem = true) : ∃ r, blocks n v = v.b :: r ∧ ∀ b0, blocks n { v with b := b0 } = b0 :: r := by
 cases n with
 | zero => exact ⟨[], blocks_zero v hm, fun b0 => blocks_zero { v with b := b0 } hm⟩
 | succ n => exact ⟨_, blocks_at hm, fun b0 => blocks_at (v := { v with b := b0 }) hm⟩
theorem Mem.moved {w1 w2 : World} {n : Nat} {v : Vt} {b0 : Nat} (hm : Mem w1 n v) (hl : v.ld = true) (hk : Keep (fun x => x = b0) w1 w2) (hs : Soft w1 b0) (hb : b0 ∉ blocks n v) (hv : ∀ kn pa pg ps ld lf cs us ks, VxAt w1 v.b kn pa pg ps ld lf cs us ks → VxAt w2 b0 kn pa pg ps ld lf cs us ks) : Mem w2 n { v with b := b0 } := by
 have hS : ∀ b, b = b0 → Soft w1 b := fun b e => by rw [e]; exact hs
 cases n with
 | zero =>
  obtain ⟨g, pa, pg, ps, a, x, h1, h2, h3⟩ := hm.leaf hl
  exact ⟨hm.in, Or.inl ⟨g, pa, pg, ps, a, x, hv _ _ _ _ _ _ _ _ _ h1, h2, h3.keep hk fun b e => (hS b e).str⟩⟩
 | succ n =>
  obtain ⟨⟨g, pa, pg, ps, a1, c1, a2, c2, a3, c3, h1, h2, h3, h4⟩, hkids⟩ := hm.node hl
  refine ⟨hm.in, Or.inl ⟨⟨g, pa, pg, ps, a1, c1, a2, c2, a3, c3, hv _ _ _ _ _ _ _ _ _ h1, h2, h3.keep hk (fun b e => (hS b e).str), KdAt.keep h4 hk hS⟩, fun x hx => (hkids x hx).keep hk hS fun b hbx e => ?_⟩⟩
  rw [e] at hbx
  exact hb (mem_flat hm.in hx hbx)
theorem hold_any {K : Kx} {root h : Nat} {T : Tx} {n : Nat} {v : Vt} {lo hi : List UInt8} (hh : Int) (w : World) (hhn : hh = (n : Int) + 1) (c : CAt w K root h T) (hm : Mem w n v) (hnd : (blocks n v).Nodup) (ho : Ok n lo hi v) (hs : Shf K.f n v) (hN : Near K.f) (hp : pot n v ≤ 1000) (hwr : T.wr ≤ 1000) :
  Calls Tryz.prog 62 #[.pointer (some ⟨K.tb, 0, none⟩), .pointer (some ⟨v.b, 0, none⟩), .int .i64 hh] w fun e w' => ∃ wr' v', wr' ≤ T.wr ∧ Mv K root h n w v T w' v' { T with wr := wr' } ∧ (v' = v ∨ Loads v v') ∧ ((e = .returned (.int .i64 0) ∧ v'.ld = true) ∨ (e = .returned (.int .i64 10) ∧ 0 < T.wr)) := by
 have HF := Lib.hid (fetch_any hh w hhn c hm ho hs hN hp hwr)
 have HM := Lib.hid (And.intro hm (And.intro hnd c))
 clear hhn c hm hnd ho hs hN hp hwr
 go_enter Tryz.func62, Tryz.ntmps62
 go_wp2_with fail
 refine (HF.out).mono ?_
 rintro e w1 (⟨hl, rfl, hb⟩ | ⟨v', hl, rfl, hL, hm1, hn1, hb1, c1, hk1⟩ | ⟨hl, rfl, hw, c1, hk1⟩)
 ·go_wp2_with fail
  go_ret
  exact ⟨T.wr, v, Nat.le_refl _, (Mv.refl HM.out.1 HM.out.2.1 HM.out.2.2).on hb, Or.inl rfl, Or.inl ⟨rfl, hl⟩⟩
 ·obtain ⟨pa, pg, ps, a1, n1, x1, a2, n2, x2, a3, n3, x3, a4, n4, x4, hx⟩ := hm1.vxAt
  have hmw : Mem w1 n v ∧ v.b < w1.heap.size := by
   have hsb : ∀ b ∈ blocks n v, ¬ b = K.sb := fun b hb e => by
    obtain ⟨cur, hc⟩ := HM.out.1.cells b hb
    exact (HM.out.2.2.notVx hc).1 (Or.inr (Or.inl e))
   have := HM.out.1.keep hk1 (fun b e => by rw [e]; exact (HM.out.2.2.soft K.sb (Or.inr (Or.inl rfl))).1) hsb
   exact ⟨this, (this.lt _ this.head).2⟩
  obtain ⟨qa, qg, qs, b1, m1, y1, b2, m2, y2, b3, m3, y3, b4, m4, y4, hy⟩ := hmw.1.vxAt
  have hne : v.b ≠ v'.b := fun e => by
   have h1 := hb1 v'.b hm1.head
   have h2 := (HM.out.1.lt v.b HM.out.1.head).2
   omega
  have c0 := hx.c0
  have c1' := hx.c1
  have c2 := hx.c2
  have c3 := hx.c3
  have c4 := hx.c4
  have c5 := hx.c5
  have c6 := hx.c6
  have c7 := hx.c7
  have c8 := hx.c8
  have d0 := hy.c0
  have d1 := hy.c1
  have d2 := hy.c2
  have d3 := hy.c3
  have d4 := hy.c4
  have d5 := hy.c5
  have d6 := hy.c6
  have d7 := hy.c7
  have d8 := hy.c8
  have f0 := hy.fz 0
  have f1 := hy.fz 1
  have f2 := hy.fz 2
  have f3 := hy.fz 3
  have f4 := hy.fz 4
  have f5 := hy.fz 5
  have f6 := hy.fz 6
  have f7 := hy.fz 7
  have f8 := hy.fz 8
  have HX := Lib.hid (And.intro hx hy)
  have HL := Lib.hid (And.intro hL (And.intro hm1 (And.intro hn1 (And.intro hb1 (And.intro c1 (And.intro hk1 hmw))))))
  clear hx hy hL hm1 hn1 hb1 c1 hk1 hmw
  go_upto_region 4 with (fail)
  obtain ⟨W, hW⟩ : ∃ W, W = (((((((((w1.setCell ⟨v.b, 0, none⟩ (.bool v'.kn.isSome)).setCell ⟨v.b, 1, none⟩ (.int .i64 pa)).setCell ⟨v.b, 2, none⟩ (.int .u64 pg)).setCell ⟨v.b, 3, none⟩ (.int .u32 ps)).setCell ⟨v.b, 4, none⟩ (.bool v'.ld)).setCell ⟨v.b, 5, none⟩ (.slice a1 n1 x1)).setCell ⟨v.b, 6, none⟩ (.slice a2 n2 x2)).setCell ⟨v.b, 7, none⟩ (.slice a3 n3 x3)).setCell ⟨v.b, 8, none⟩ (.slice a4 n4 x4)) := ⟨_, rfl⟩
  have hV : VxAt W v.b v'.kn.isSome pa pg ps v'.ld (.slice a1 n1 x1) (.slice a2 n2 x2) (.slice a3 n3 x3) (.slice a4 n4 x4) := by
   rw [hW]
   exact ⟨((((((((HX.out.2.row.put 0 _).put 1 _).put 2 _).put 3 _).put 4 _).put 5 _).put 6 _).put 7 _).put 8 _⟩
  have hKW : Keep (fun x => x = v.b) w1 W := by
   rw [hW]
   exact ((((((((((Keep.refl (fun x => x = v.b) w1).setCell ⟨v.b, 0, none⟩ (Or.inl rfl) _).setCell ⟨v.b, 1, none⟩ (Or.inl rfl) _).setCell ⟨v.b, 2, none⟩ (Or.inl rfl) _).setCell ⟨v.b, 3, none⟩ (Or.inl rfl) _).setCell ⟨v.b, 4, none⟩ (Or.inl rfl) _).setCell ⟨v.b, 5, none⟩ (Or.inl rfl) _).setCell ⟨v.b, 6, none⟩ (Or.inl rfl) _).setCell ⟨v.b, 7, none⟩ (Or.inl rfl) _).setCell ⟨v.b, 8, none⟩ (Or.inl rfl) _)
  rw [← hW]
  clear hW
  go_wp2_with fail
  go_ret
  obtain ⟨hL, hm1, hn1, hb1, c1, hk1, hmw⟩ := HL.out
  obtain ⟨hx, hy⟩ := HX.out
  obtain ⟨hm, hnd, c⟩ := HM.out
  have hlt := (hm.lt v.b hm.head).2
  have hnb : v.b ∉ blocks n v' := fun q => by have := hb1 _ q; omega
  have hld : v'.ld = true := hL.ld
  have hM : Mem W n { v' with b := v.b } := hm1.moved hld hKW hy.soft hnb fun kn qa qg qs ld lf cs us ks hq => by
   obtain ⟨rfl, rfl, rfl, rfl, rfl, rfl, rfl, rfl, rfl⟩ := hx.one hq
   exact hV
  obtain ⟨r, e1, e2⟩ := blocks_move n v' hm1.in
  rw [e1] at hn1 hb1 hnb
  refine ⟨T.wr - 1, { v' with b := v.b }, by omega, ⟨hM, ?_, fun b hb => ?_, rfl, c1.keep hKW (fun x e => by obtain rfl : x = v.b := e; exact Or.inl ⟨_, hy.row⟩), fun x hx => Or.inl hx, ?_⟩, Or.inr hL, Or.inl ⟨rfl, hld⟩⟩
  ·rw [e2, List.nodup_cons]
   exact ⟨fun q => hnb (List.mem_cons_of_mem _ q), (List.nodup_cons.1 hn1).2⟩
  ·rw [e2] at hb
   rcases List.mem_cons.1 hb with rfl | hb
   ·exact Or.inl hm.head
   ·exact Or.inr (hb1 b (List.mem_cons_of_mem _ hb))
  ·exact (hk1.mono fun x e => Or.inl (Or.inr (Or.inl e))).trans' (hKW.mono fun x e => Or.inr (by rw [show x = v.b from e]; exact hm.head))
 ·go_wp2_with fail
  go_ret
  obtain ⟨hm, hnd, c⟩ := HM.out
  refine ⟨0, v, Nat.zero_le _, ⟨hm.keep hk1 (fun b e => by rw [e]; exact (c.soft K.sb (Or.inr (Or.inl rfl))).1) (fun b hb e => ?_), hnd, fun _ q => Or.inl q, rfl, c1, fun _ q => Or.inl q, hk1.mono fun x e => Or.inl (Or.inr (Or.inl e))⟩, Or.inl rfl, Or.inr ⟨rfl, hw⟩⟩
  obtain ⟨cur, hc⟩ := hm.cells b hb
  exact (c.notVx hc).1 (Or.inr (Or.inl e))
open Go.RowKit
attribute [local go_sem ↓] Go.wp_at_zero Go.wp_at_succ
theorem lenE_next (a : Option Addr) (n c : Nat) (w : World) :
  Calls Tryz.prog 68 #[.agg #[.slice a n c]] w fun e w' => e = .returned (.int .i64 n) ∧ Below w.heap.size w w' := by
 go_enter Tryz.func68, Tryz.ntmps68
 go_wp2
 go_ret
 exact ⟨rfl, by go_grown⟩
theorem hold_in {b : Nat} {kn : Bool} {pa : Int} {pg ps : Nat} {lf cs us ks : Value} (tb : Nat) (h : Int) (w : World) (hv : VxAt w b kn pa pg ps true lf cs us ks) :
  Calls Tryz.prog 62 #[.pointer (some ⟨tb, 0, none⟩), .pointer (some ⟨b, 0, none⟩), .int .i64 h] w fun e w' => e = .returned (.int .i64 0) ∧ Below w.heap.size w w' := by
 go_enter Tryz.func62, Tryz.ntmps62
 go_wp2_with fail
 refine (thread (fetch_in (.pointer (some ⟨tb, 0, none⟩)) h w hv) w.heap.size w (Below.refl _ _) (Nat.le_refl _)).mono ?_
 rintro e w2 ⟨rfl, hX, -, -, -, hz⟩
 go_wp2_with fail
 go_ret
 exact ⟨rfl, hX⟩
theorem soil_clean {b : Nat} {pa : Int} {pg ps : Nat} {ld : Bool} {lf cs us ks : Value} (tb : Nat) (w : World) (hv : VxAt w b false pa pg ps ld lf cs us ks) :
  Calls Tryz.prog 65 #[.pointer (some ⟨tb, 0, none⟩), .pointer (some ⟨b, 0, none⟩)] w fun e w' => e = .returned (.tuple #[]) ∧ Below w.heap.size w w' := by
 have c0 := hv.c0
 go_enter Tryz.func65, Tryz.ntmps65
 go_wp2_with fail
 exact bodyPost_end (v := .tuple #[]) (by simp [results, Tryz.results65, go_sem]) rfl ⟨rfl, by go_grown⟩
theorem room_leaf {tb b : Nat} {F B L : Int} {ld : Value} {gone : Value} {fl le : Int} {kn : Bool} {pa : Int} {pg ps : Nat} {lf cs us ks : Value} (k : List UInt8) (w : World) (ht : TrAt w tb F B L ld b 1 gone fl le) (hv : VxAt w b kn pa pg ps true lf cs us ks) :
  Calls Tryz.prog 39 #[.pointer (some ⟨tb, 0, none⟩), .string (S k)] w fun e w' => e = .returned (.int .i64 0) ∧ Below w.heap.size w w' := by
 go_enter Tryz.func39, Tryz.ntmps39
 go_wp2_with fail
 go_loopw [] (fun wr => wr = w) (fun _ => 0)
 case atStart => rfl
 case round =>
  subst hrel
  have c4 := ht.c4
  have c5 := ht.c5
  go_upto_region 1 with (fail)
  refine WQ.region (C := fun w' => Below wr.heap.size wr w') (by kernel_rfl) (by kernel_rfl) (below_drew' (Below.refl _ _)) ?_
  refine WV (by rfl) (.pointer (some ⟨tb, 0, none⟩)) (fun w' hw' => ?_) ?_
  ·have hq' := hw'
   go_simp
  try simp only [Act.put, WA, WB, WC]
  refine WV (by rfl) (.pointer (some ⟨tb, 0, none⟩)) (fun w' hw' => ?_) ?_
  ·have hq' := hw'
   go_simp
  try simp only [Act.put, WA, WB, WC]
  refine WV (by rfl) (.pointer (some ⟨tb, 0, none⟩)) (fun w' hw' => ?_) ?_
  ·have hq' := hw'
   go_simp
  try simp only [Act.put, WA, WB, WC]
  refine WV (by rfl) (.pointer (some ⟨tb, 4, none⟩)) (fun w' hw' => ?_) ?_
  ·have hq' := hw'
   go_simp
  try simp only [Act.put, WA, WB, WC]
  refine WV (by rfl) (.pointer (some ⟨b, 0, none⟩)) (fun w' hw' => ?_) ?_
  ·have hq' := hw'
   have z0 := kept_cell hw' c4; have z1 := kept_cell hw' c5; go_simp
  try simp only [Act.put, WA, WB, WC]
  refine WV (by rfl) (.pointer (some ⟨tb, 0, none⟩)) (fun w' hw' => ?_) ?_
  ·have hq' := hw'
   go_simp
  try simp only [Act.put, WA, WB, WC]
  refine WV (by rfl) (.pointer (some ⟨tb, 0, none⟩)) (fun w' hw' => ?_) ?_
  ·have hq' := hw'
   go_simp
  try simp only [Act.put, WA, WB, WC]
  refine WV (by rfl) (.pointer (some ⟨tb, 5, none⟩)) (fun w' hw' => ?_) ?_
  ·have hq' := hw'
   go_simp
  try simp only [Act.put, WA, WB, WC]
  refine WV (by rfl) (.int .i64 1) (fun w' hw' => ?_) ?_
  ·have hq' := hw'
   have z0 := kept_cell hw' c4; have z1 := kept_cell hw' c5; go_simp
  try simp only [Act.put, WA, WB, WC]
  refine WV (by rfl) (.int .i64 0) (fun w' hw' => ?_) ?_
  ·have hq' := hw'
   go_simp
   go_at_call 62
   refine (hold_in tb 1 _ (hv.kept hq' (Nat.le_refl _))).mono ?_
   rintro e w6 ⟨he, hb6⟩
   exact ⟨he, hq'.trans (hb6.mono hq'.size)⟩
  try simp only [Act.put, WA, WB, WC]
  refine WV (by rfl) (.int .i64 0) (fun w' hw' => ?_) ?_
  ·have hq' := hw'
   go_simp
  try simp only [Act.put, WA, WB, WC]
  refine WQ.done ?_
  rintro w2 hX
  replace c5 := kept_cell hX c5
  go_wp2_with fail
  go_ret
  exact ⟨rfl, hX⟩
theorem give_leaf {tb b : Nat} {pa : Int} {pg ps : Nat} {ld : Bool} {a : Option Addr} {n c : Nat} {cs us : Value} {es : List Ent} (s : Value) (l : List Upd) (w : World) (hv : VxAt w b false pa pg ps ld (.slice a n c) cs us (.slice none 0 0)) (hb : BoxE w (.agg #[.slice a n c]) es) (hs : SlU w s l) (hl : es.length ≤ 10000) (hr : Rising Ent.key es) (hf : FineE es) (hw : ∀ u ∈ l, u.Wf) (hll : l.length ≤ 10000) :
  Calls Tryz.prog 40 #[.pointer (some ⟨tb, 0, none⟩), .pointer (some ⟨b, 0, none⟩), s] w fun e w' => e = .returned (.tuple #[]) ∧ (∃ a' c', VxAt w' b false pa pg ps ld (.slice a' (onAll es l).length c') cs us (.slice none 0 0) ∧ BoxE w' (.agg #[.slice a' (onAll es l).length c']) (onAll es l)) ∧ Keep (fun x => x = b) w w' := by
 have HO := Lib.hid (fun w' h1 h2 => leafOn_any (.agg #[.slice a n c]) es s l w' h1 hl hr hf h2 hw hll)
 have HB := Lib.hid hb
 have HS := Lib.hid hs
 obtain ⟨sa, sc, es1, -⟩ := hs
 subst es1
 clear hb
 go_enter Tryz.func40, Tryz.ntmps40
 go_wp2_with fail
 refine (thread (soil_clean tb w hv) w.heap.size w (Below.refl _ _) (Nat.le_refl _)).mono ?_
 rintro e w1 ⟨rfl, hX1, -, -, -, hz1⟩
 have hv1 := hv.on hX1
 have v8 := hv1.c8
 have v5 := hv1.c5
 have vf := hv1.fz 5
 go_wp2_with fail
 refine (HO.out w1 (HB.out.kept hX1 (Nat.le_refl _)) (HS.out.kept hX1 (Nat.le_refl _))).mono ?_
 rintro e w2 ⟨⟨a', c', rfl, hb2⟩, hX2⟩
 have hv2 := hv1.on hX2
 have v5' := hv2.c5
 have vf' := hv2.fz 5
 have HB2 := Lib.hid hb2
 have hX := hX1.trans (hX2.mono hX1.size)
 go_wp2_with fail
 refine bodyPost_ret (v := .tuple #[]) (by simp [results, Tryz.results40, go_sem]) rfl ⟨rfl, ⟨a', c', hv2.putL _, HB2.out.setAt v5' _⟩, (Keep.of_below (S := fun x => x = b) hX).setCell ⟨b, 5, none⟩ (Or.inl rfl) _⟩
theorem top_leaf {tb b : Nat} {F B L : Int} {ld : Value} {gone : Value} {fl le : Int} {kn : Bool} {pa : Int} {pg ps : Nat} {ldd : Bool} {a : Option Addr} {n c : Nat} {cs us ks : Value} (w : World) (ht : TrAt w tb F B L ld b 1 gone fl le) (hv : VxAt w b kn pa pg ps ldd (.slice a n c) cs us ks) (hn : ¬ L < (n : Int)) :
  Calls Tryz.prog 41 #[.pointer (some ⟨tb, 0, none⟩)] w fun e w' => e = .returned (.tuple #[]) ∧ Below w.heap.size w w' := by
 have c4 := ht.c4
 have c5 := ht.c5
 have c2 := ht.c2
 have v5 := hv.c5
 go_enter Tryz.func41, Tryz.ntmps41
 go_wp2_with fail
 go_loopw [] (fun wr => wr = w) (fun _ => 0)
 case atStart => rfl
 case round =>
  subst hrel
  go_upto_region 0 with (fail)
  refine WQ.region (C := fun w' => Below wr.heap.size wr w') (by kernel_rfl) (by kernel_rfl) (below_drew' (Below.refl _ _)) ?_
  refine WV (by rfl) (.pointer (some ⟨tb, 0, none⟩)) (fun w' hw' => ?_) ?_
  ·have hq' := hw'
   go_simp
  try simp only [Act.put, WA, WB, WC]
  refine WV (by rfl) (.pointer (some ⟨tb, 0, none⟩)) (fun w' hw' => ?_) ?_
  ·have hq' := hw'
   go_simp
  try simp only [Act.put, WA, WB, WC]
  refine WV (by rfl) (.pointer (some ⟨tb, 5, none⟩)) (fun w' hw' => ?_) ?_
  ·have hq' := hw'
   go_simp
  try simp only [Act.put, WA, WB, WC]
  refine WV (by rfl) (.int .i64 1) (fun w' hw' => ?_) ?_
  ·have hq' := hw'
   have z0 := kept_cell hw' c4; have z1 := kept_cell hw' c5; have z2 := kept_cell hw' c2; have z3 := kept_cell hw' v5; go_simp
  try simp only [Act.put, WA, WB, WC]
  refine WV (by rfl) (.bool true) (fun w' hw' => ?_) ?_
  ·have hq' := hw'
   go_simp
  try simp only [Act.put, WA, WB, WC]
  refine WV (by rfl) (.bool true) (fun w' hw' => ?_) ?_
  ·have hq' := hw'
   go_simp
  try simp only [Act.put, WA, WB, WC]
  refine WV (by rfl) (.pointer (some ⟨tb, 0, none⟩)) (fun w' hw' => ?_) ?_
  ·have hq' := hw'
   go_simp
  try simp only [Act.put, WA, WB, WC]
  refine WV (by rfl) (.pointer (some ⟨tb, 0, none⟩)) (fun w' hw' => ?_) ?_
  ·have hq' := hw'
   go_simp
  try simp only [Act.put, WA, WB, WC]
  refine WV (by rfl) (.pointer (some ⟨tb, 4, none⟩)) (fun w' hw' => ?_) ?_
  ·have hq' := hw'
   go_simp
  try simp only [Act.put, WA, WB, WC]
  refine WV (by rfl) (.pointer (some ⟨b, 0, none⟩)) (fun w' hw' => ?_) ?_
  ·have hq' := hw'
   have z0 := kept_cell hw' c4; have z1 := kept_cell hw' c5; have z2 := kept_cell hw' c2; have z3 := kept_cell hw' v5; go_simp
  try simp only [Act.put, WA, WB, WC]
  refine WV (by rfl) (.pointer (some ⟨b, 0, none⟩)) (fun w' hw' => ?_) ?_
  ·have hq' := hw'
   go_simp
  try simp only [Act.put, WA, WB, WC]
  refine WV (by rfl) (.pointer (some ⟨b, 5, none⟩)) (fun w' hw' => ?_) ?_
  ·have hq' := hw'
   go_simp
  try simp only [Act.put, WA, WB, WC]
  refine WV (by rfl) (.agg #[.slice a n c]) (fun w' hw' => ?_) ?_
  ·have hq' := hw'
   have z0 := kept_cell hw' c4; have z1 := kept_cell hw' c5; have z2 := kept_cell hw' c2; have z3 := kept_cell hw' v5; go_simp
  try simp only [Act.put, WA, WB, WC]
  refine WV (by rfl) (.int .i64 n) (fun w' hw' => ?_) ?_
  ·have hq' := hw'
   go_simp
   go_at_call 68
   refine (lenE_next a n c _).mono ?_
   rintro e w6 ⟨he, hb6⟩
   exact ⟨he, hq'.trans (hb6.mono hq'.size)⟩
  try simp only [Act.put, WA, WB, WC]
  refine WV (by rfl) (.pointer (some ⟨tb, 0, none⟩)) (fun w' hw' => ?_) ?_
  ·have hq' := hw'
   go_simp
  try simp only [Act.put, WA, WB, WC]
  refine WV (by rfl) (.pointer (some ⟨tb, 0, none⟩)) (fun w' hw' => ?_) ?_
  ·have hq' := hw'
   go_simp
  try simp only [Act.put, WA, WB, WC]
  refine WV (by rfl) (.pointer (some ⟨tb, 0, none⟩)) (fun w' hw' => ?_) ?_
  ·have hq' := hw'
   go_simp
  try simp only [Act.put, WA, WB, WC]
  refine WV (by rfl) (.pointer (some ⟨tb, 2, none⟩)) (fun w' hw' => ?_) ?_
  ·have hq' := hw'
   go_simp
  try simp only [Act.put, WA, WB, WC]
  refine WV (by rfl) (.int .i64 L) (fun w' hw' => ?_) ?_
  ·have hq' := hw'
   have z0 := kept_cell hw' c4; have z1 := kept_cell hw' c5; have z2 := kept_cell hw' c2; have z3 := kept_cell hw' v5; go_simp
  try simp only [Act.put, WA, WB, WC]
  refine WV (by rfl) (.bool false) (fun w' hw' => ?_) ?_
  ·have hq' := hw'
   go_simp
  try simp only [Act.put, WA, WB, WC]
  refine WV (by rfl) (.bool false) (fun w' hw' => ?_) ?_
  ·have hq' := hw'
   go_simp
  try simp only [Act.put, WA, WB, WC]
  refine WQ.done ?_
  rintro w2 hX
  replace c5 := kept_cell hX c5
  obtain ⟨W1, hW1⟩ : ∃ W1, W1 = wr := ⟨_, rfl⟩
  subst hW1
  go_wp2_with fail
  go_loopw [] (fun wr' => wr' = w2) (fun _ => 0)
  case atStart => rfl
  case round =>
   subst hrel
   go_upto_region 2 with (fail)
   refine WQ.region (C := fun w' => Below wr.heap.size wr w') (by kernel_rfl) (by kernel_rfl) (below_drew' (Below.refl _ _)) ?_
   refine WV (by rfl) (.pointer (some ⟨tb, 0, none⟩)) (fun w' hw' => ?_) ?_
   ·have hq' := hw'
    go_simp
   try simp only [Act.put, WA, WB, WC]
   refine WV (by rfl) (.pointer (some ⟨tb, 0, none⟩)) (fun w' hw' => ?_) ?_
   ·have hq' := hw'
    go_simp
   try simp only [Act.put, WA, WB, WC]
   refine WV (by rfl) (.pointer (some ⟨tb, 5, none⟩)) (fun w' hw' => ?_) ?_
   ·have hq' := hw'
    go_simp
   try simp only [Act.put, WA, WB, WC]
   refine WV (by rfl) (.int .i64 1) (fun w' hw' => ?_) ?_
   ·have hq' := hw'
    have z0 := kept_cell hw' c5; go_simp
   try simp only [Act.put, WA, WB, WC]
   refine WV (by rfl) (.bool false) (fun w' hw' => ?_) ?_
   ·have hq' := hw'
    go_simp
   try simp only [Act.put, WA, WB, WC]
   refine WV (by rfl) (.bool false) (fun w' hw' => ?_) ?_
   ·have hq' := hw'
    go_simp
   try simp only [Act.put, WA, WB, WC]
   refine WS (by rfl) ?_
   try simp only [Act.put, WA, WB, WC]
   refine WS (by rfl) ?_
   try simp only [Act.put, WA, WB, WC]
   refine WS (by rfl) ?_
   try simp only [Act.put, WA, WB, WC]
   refine WS (by rfl) ?_
   try simp only [Act.put, WA, WB, WC]
   refine WS (by rfl) ?_
   try simp only [Act.put, WA, WB, WC]
   refine WS (by rfl) ?_
   try simp only [Act.put, WA, WB, WC]
   refine WS (by rfl) ?_
   try simp only [Act.put, WA, WB, WC]
   refine WS (by rfl) ?_
   try simp only [Act.put, WA, WB, WC]
   refine WS (by rfl) ?_
   try simp only [Act.put, WA, WB, WC]
   refine WS (by rfl) ?_
   try simp only [Act.put, WA, WB, WC]
   refine WS (by rfl) ?_
   try simp only [Act.put, WA, WB, WC]
   refine WS (by rfl) ?_
   try simp only [Act.put, WA, WB, WC]
   refine WV (by rfl) (.bool false) (fun w' hw' => ?_) ?_
   ·have hq' := hw'
    go_simp
   try simp only [Act.put, WA, WB, WC]
   refine WQ.done ?_
   rintro w3 hX3
   replace c5 := kept_cell hX3 c5
   obtain ⟨W2, hW2⟩ : ∃ W2, W2 = wr := ⟨_, rfl⟩
   subst hW2
   have hX4 := hX.trans (hX3.mono hX.size)
   go_wp2_with fail
   go_loopw [] (fun wr' => wr' = w3) (fun _ => 0)
   case atStart => rfl
   case round =>
    subst hrel
    go_wp2_with fail
    exact bodyPost_end (v := .tuple #[]) (by simp [results, Tryz.results41, go_sem]) rfl ⟨rfl, hX4⟩
theorem apply_leaf {tb b : Nat} {F B L : Int} {fn : Fn} {xs ys : Array Value} {ga : Option Addr} {gn gc : Nat} {fl le : Int} {pa : Int} {pg ps : Nat} {a : Option Addr} {n c : Nat} {cs us : Value} {es : List Ent} (kd : Nat) (key val : List UInt8) (dl : Nat) (w : World)
  (ht : TrAt w tb F B L (.func fn xs ys) b 1 (.slice ga gn gc) fl le) (hv : VxAt w b false pa pg ps true (.slice a n c) cs us (.slice none 0 0)) (hb : BoxE w (.agg #[.slice a n c]) es) (hl : es.length ≤ 10000) (hr : Rising Ent.key es) (hf : FineE es)
  (hk : kd < 256) (hd : dl < 18446744073709551616) (hc : (Upd.mk kd key val dl).check = 0) (hL : ((onAll es [⟨kd, key, val, dl⟩]).length : Int) ≤ L) :
  Calls Tryz.prog 13 #[.pointer (some ⟨tb, 0, none⟩), .agg #[.int .u8 kd, .string (S key), .string (S val), .int .u64 dl]] w fun e w' => e = .returned (.int .i64 0) ∧ (∃ a' c', VxAt w' b false pa pg ps true (.slice a' (onAll es [⟨kd, key, val, dl⟩]).length c') cs us (.slice none 0 0) ∧ BoxE w' (.agg #[.slice a' (onAll es [⟨kd, key, val, dl⟩]).length c']) (onAll es [⟨kd, key, val, dl⟩])) ∧ TrAt w' tb F B L (.func fn xs ys) b 1 (.slice ga gn gc) fl le ∧ Keep (fun x => x = b) w w' := by
 have hne : b ≠ tb := fun e => by
  subst e
  have h1 := ht.row
  have h2 := hv.row
  unfold RowIs at h1 h2
  rw [h1] at h2
  simp at h2
 have HC := Lib.hid (fun w => chk kd key val dl hk hd w)
 rw [hc] at HC
 have HGV := Lib.hid (fun w' (s : Value) (h1 : VxAt w' b false pa pg ps true (.slice a n c) cs us (.slice none 0 0)) h2 h3 => give_leaf (tb := tb) s [⟨kd, key, val, dl⟩] w' h1 h2 h3 hl hr hf (fun u hu => by rw [List.mem_singleton] at hu; rw [hu]; exact ⟨hk, hd⟩) (by simp))
 have HB := Lib.hid hb
 clear hb hr hf hc
 generalize onAll es [⟨kd, key, val, dl⟩] = E at *
 go_enter Tryz.func13, Tryz.ntmps13
 go_upto_region 3 with (fail)
 have hT := Lib.hid ht
 have hV := Lib.hid hv
 have hK := Keep.refl (fun x => x = b) w
 have hb0 := Below.refl w.heap.size w
 clear ht hv
 obtain ⟨W, hW_W⟩ : ∃ W, W = (w.alloc (.cells #[.int .u8 kd, .string (S key), .string (S val), .int .u64 dl] 39)) := ⟨_, rfl⟩
 rw [← hW_W]
 have hX_W : Below w.heap.size w W := by rw [hW_W]; go_grown
 have gu0 : W.cell? ⟨w.heap.size, 0, none⟩ = some (.int .u8 kd) := by rw [hW_W, World.cell?_alloc_at _ _ _ _ (by simp)]; rfl
 have gu1 : W.cell? ⟨w.heap.size, 1, none⟩ = some (.string (S key)) := by rw [hW_W, World.cell?_alloc_at _ _ _ _ (by simp)]; rfl
 have gu2 : W.cell? ⟨w.heap.size, 2, none⟩ = some (.string (S val)) := by rw [hW_W, World.cell?_alloc_at _ _ _ _ (by simp)]; rfl
 have gu3 : W.cell? ⟨w.heap.size, 3, none⟩ = some (.int .u64 dl) := by rw [hW_W, World.cell?_alloc_at _ _ _ _ (by simp)]; rfl
 clear hW_W
 have hz_W := hX_W.size
 replace hT := Lib.hid (hT.out.kept hX_W (Nat.le_refl _))
 replace hV := Lib.hid (hV.out.kept hX_W (Nat.le_refl _))
 replace HB := Lib.hid (HB.out.kept hX_W (Nat.le_refl _))
 replace hb0 := hb0.trans (hX_W.mono hb0.size)
 clear hX_W
 go_wp2_with fail
 refine (thread (HC.out W) W.heap.size W (Below.refl _ _) (Nat.le_refl _)).mono ?_
 rintro e w1 ⟨rfl, hX_w1, -, -, -, hz_w1⟩
 replace gu0 := kept_cell hX_w1 gu0
 replace gu1 := kept_cell hX_w1 gu1
 replace gu2 := kept_cell hX_w1 gu2
 replace gu3 := kept_cell hX_w1 gu3
 replace hT := Lib.hid (hT.out.kept hX_w1 (Nat.le_refl _))
 replace hV := Lib.hid (hV.out.kept hX_w1 (Nat.le_refl _))
 replace HB := Lib.hid (HB.out.kept hX_w1 (Nat.le_refl _))
 replace hb0 := hb0.trans (hX_w1.mono hb0.size)
 clear hX_w1
 go_wp2_with fail
 refine (thread (room_leaf key w1 hT.out hV.out) w1.heap.size w1 (Below.refl _ _) (Nat.le_refl _)).mono ?_
 rintro e w2 ⟨rfl, hX_w2, -, -, -, hz_w2⟩
 replace gu0 := kept_cell hX_w2 gu0
 replace gu1 := kept_cell hX_w2 gu1
 replace gu2 := kept_cell hX_w2 gu2
 replace gu3 := kept_cell hX_w2 gu3
 replace hT := Lib.hid (hT.out.kept hX_w2 (Nat.le_refl _))
 replace hV := Lib.hid (hV.out.kept hX_w2 (Nat.le_refl _))
 replace HB := Lib.hid (HB.out.kept hX_w2 (Nat.le_refl _))
 replace hb0 := hb0.trans (hX_w2.mono hb0.size)
 clear hX_w2
 have c4 := hT.out.c4
 go_upto_region 9 with (fail)
 have e1 : ∀ x, (w2.alloc x).cell? ⟨tb, 4, none⟩ = some (.pointer (some ⟨b, 0, none⟩)) := fun x => (World.cell?_alloc_past _ _ _ hT.out.lt).trans c4
 have hW3 : Below w2.heap.size w2 (w2.alloc (.cells #[.int .u8 kd, .string (S key), .string (S val), .int .u64 dl] 39)).drew := below_drew' ((Below.refl _ _).alloc (Nat.le_refl _) _)
 have HS3 := Lib.hid (show SlU (w2.alloc (.cells #[.int .u8 kd, .string (S key), .string (S val), .int .u64 dl] 39)).drew (.slice (some ⟨w2.heap.size, 0, none⟩) 1 1) [⟨kd, key, val, dl⟩] from
  ⟨_, _, rfl, SlAt.new w2 _ _ _ [(⟨kd, key, val, dl⟩ : Upd)] (fun x hx => rfl) (by simp; rfl), Nat.le_refl _, by show (1 : Int) ≤ _; omega, fun e => by simp at e⟩)
 go_region_law (first | (go_simp; go_at_call 40; refine (HGV.out _ _ (hV.out.on hW3) (HB.out.kept hW3 (Nat.le_refl _)) HS3.out).mono ?_; rintro e w4 ⟨rfl, ⟨a', c', hv4, hb4⟩, hK4⟩))
 all_goals
  have HT4 := Lib.hid (show TrAt w4 tb F B L (.func fn xs ys) b 1 (.slice ga gn gc) fl le from ⟨hK4.row (hT.out.on hW3).row (fun e => hne e.symm)⟩)
  have HB4 := Lib.hid hb4
  have hK2 : Keep (fun x => x = b) w w4 := ((Keep.of_below (S := fun x => x = b) hb0).trans' (.of_below (hW3.mono (Nat.le_refl _)))).trans' hK4
  clear hb4 hK4 hW3
  go_wp2_with fail
  refine (thread (top_leaf w4 HT4.out hv4 (by omega)) w4.heap.size w4 (Below.refl _ _) (Nat.le_refl _)).mono ?_
  rintro e w5 ⟨rfl, hX5, -, -, -, hz5⟩
  have hK5 := hK2.on hX5
  have hv5 := hv4.on hX5
  have HB5 := Lib.hid (HB4.out.kept hX5 (Nat.le_refl _))
  have HT5 := Lib.hid (HT4.out.on hX5)
  go_wp2_with fail
  go_ret
  exact ⟨rfl, ⟨a', c', hv5, HB5.out⟩, HT5.out, hK5⟩
open Go.RowKit
attribute [local go_sem ↓] Go.wp_at_zero Go.wp_at_succ
theorem infoInt : (Tryz.prog.info? 3).map (fun i => (i.zero, i.size, i.bytes)) = some (some (.int .i64 0), 1, 8) := by kernel_rfl
theorem zeros_int (k : Nat) : ∀ u ∈ (Builtin.zeroCells #[Value.int .i64 0] k).toList, ∃ i, u = .int .i64 i := by
 intro u hu
 unfold Builtin.zeroCells at hu
 rw [Array.mem_toList_iff, Array.mem_map] at hu
 obtain ⟨i, -, e⟩ := hu
 rw [← e]
 have : i % #[Value.int .i64 0].size = 0 := Nat.mod_one _
 rw [this]
 exact ⟨0, rfl⟩
theorem RowIs.cur {w : World} {E E' : TypeId} {b : Nat} {cur : List Value} {cs : Array Value} (h : RowIs w E b cur) (h' : w.heap[b]? = some (.cells cs E' (0, 0))) : cur = cs.toList := by
 unfold RowIs at h
 rw [h] at h'
 simp only [Option.some.injEq, Obj.cells.injEq, and_true] at h'
 rw [← h'.1]
theorem run_append_gn {w : World} {gv : Value} {gone : List Int} (h : GnAt w gv gone) (x : Int) (a : Addr) (c : Nat) (hx : ∀ j u, [Value.int .i64 x][j]? = some u → w.cell? (a.add j) = some u) (hl : gone.length ≤ 1000000) (ty : TypeId) :
  ∃ v' w', (Builtin.append_ #[55, 55] ty #[gv, .slice (some a) 1 c]).run Tryz.prog w = .ok v' w' ∧ GnAt w' v' (gone ++ [x]) ∧ w.grownBy w' gv.ownBlock ∧ (v'.ownBlock = gv.ownBlock ∨ v'.ownBlock = some w.heap.size) := by
 obtain ⟨i0, hi, iz0, iz1, iz2⟩ := info_parts infoInt
 have h1 : ∀ u ∈ [Value.int .i64 x], u.oneCell' = true := fun u hu => by rw [List.mem_singleton] at hu; rw [hu]; rfl
 obtain ⟨v', w', hr, h2, h3, -, h5⟩ := run_append_own_at (P := Tryz.prog) w 0 55 ty 3 i0 (.int .i64 0) 1 8 Tryz.underlying55 hi iz0 iz1 iz2 rfl (by decide) gv gone.length (gnRow gone) h.own a 1 c [.int .i64 x] rfl hx h1 (by unfold maxLen; omega) (by omega) (Nat.zero_le _)
 refine ⟨v', w', hr, ⟨by rw [List.length_append]; unfold gnRow at h2 ⊢; rw [List.map_append]; exact h2, ?_⟩, h3, h5⟩
 have hnew : ∀ u ∈ [Value.int .i64 x], ∃ i, u = .int .i64 i := fun u hu => by rw [List.mem_singleton] at hu; exact ⟨x, hu⟩
 have hgn : ∀ u ∈ gnRow gone, ∃ i, u = .int .i64 i := fun u hu => by obtain ⟨i, -, e⟩ := List.mem_map.1 hu; exact ⟨i, e.symm⟩
 rcases h.own.2 with ⟨e1, e2⟩ | ⟨g, cap, cur, e1, hbg, hg, hnc, hcm, hcs, htake⟩
 ·rw [e1] at hr
  have hr2 := run_append_nil (P := Tryz.prog) w 55 ty 3 i0 (.int .i64 0) Tryz.underlying55 hi iz0 a 1 c [.int .i64 x] (by rw [iz1]; rfl) hx (by omega) (by omega) (by rw [iz2]; omega)
  rw [hr] at hr2
  injection hr2 with ev ew
  subst ev ew
  intro g hg cur hc u hu
  simp only [Value.ownBlock, Option.some.injEq] at hg
  subst hg
  rw [hc.cur (heap_alloc_new w.drew _)] at hu
  rw [Array.toList_append, List.mem_append] at hu
  rcases hu with hu | hu
  ·exact hnew u (by simpa using hu)
  ·exact zeros_int _ u hu
 ·rw [e1] at hr
  by_cases hroom : gone.length + 1 ≤ cap
  ·have hr2 := run_append_room (P := Tryz.prog) w 55 ty 3 i0 Tryz.underlying55 hi g gone.length cap cur hg a 1 c [.int .i64 x] (by rw [iz1]; rfl) hx h1 hroom (by rw [iz1, hcs]; simp; omega)
   rw [hr] at hr2
   injection hr2 with ev ew
   subst ev ew
   intro g' hg' cur' hc u hu
   simp only [Value.ownBlock, Option.some.injEq] at hg'
   subst hg'
   rw [hc.cur (setRow_heap w g cur _ _ _ hg)] at hu
   have hold := h.int g (by rw [e1]; rfl) cur.toList (by unfold RowIs; rw [Array.toArray_toList]; exact hg)
   simp only [List.append_assoc, List.mem_append, List.mem_singleton] at hu
   rcases hu with hu | hu | hu
   ·exact hold u (List.mem_of_mem_take hu)
   ·exact ⟨x, hu⟩
   ·exact hold u (List.mem_of_mem_drop hu)
  ·have holds : ∀ j u, (gnRow gone)[j]? = some u → w.cell? ((⟨g, 0, none⟩ : Addr).add j) = some u := h.own.cells (g := g) (by rw [e1]; rfl)
   have hr2 := run_append_grow (P := Tryz.prog) w 55 ty 3 i0 (.int .i64 0) Tryz.underlying55 hi iz0 ⟨g, 0, none⟩ gone.length cap (gnRow gone) (by rw [iz1]; simp) holds a 1 c [.int .i64 x] (by rw [iz1]; rfl) hx (by omega) (by omega) (growslice_fits (by omega) (by rw [iz2]; omega))
   rw [hr] at hr2
   injection hr2 with ev ew
   subst ev ew
   intro g' hg' cur' hc u hu
   simp only [Value.ownBlock, Option.some.injEq] at hg'
   subst hg'
   rw [hc.cur (heap_alloc_new w.drew _)] at hu
   rw [Array.toList_append, List.mem_append, Array.toList_append, List.mem_append] at hu
   rcases hu with (hu | hu) | hu
   ·exact hgn u (by simpa using hu)
   ·exact hnew u (by simpa using hu)
   ·exact zeros_int _ u hu
theorem step_append_gn {ops : Array Oper} {o : Oper} {a : Act} {w : World} {K : Act → World → Prop} {Q : Exit → Act → World → Prop} {E0 : Prop} (hgd : o.guard = none) (s x : Operand)
  (ho : o.op = Op.call { callee := Callee.builtin Builtin.append, args := #[s, x], argTypes := #[55, 55] })
  (gv : Value) (gone : List Int) (hs : a.eval s = gv) (h : GnAt w gv gone) (y : Int) (ad : Addr) (c : Nat) (hx : a.eval x = .slice (some ad) 1 c) (hnews : ∀ j u, [Value.int .i64 y][j]? = some u → w.cell? (ad.add j) = some u) (hl : gone.length ≤ 1000000)
  (hk : ∀ v' w', GnAt w' v' (gone ++ [y]) → w.grownBy w' gv.ownBlock → (v'.ownBlock = gv.ownBlock ∨ v'.ownBlock = some w.heap.size) → K (a.put o.dst v') w') :
  if Region.wanted o (yielded ops a.tmps) = true then Oper.wp Tryz.prog o a w K Q else E0 := by
 have hw : Region.wanted o (yielded ops a.tmps) = true := by simp [Region.wanted, hgd]
 rw [if_pos hw]
 obtain ⟨v', w', hr, h2, h3, h5⟩ := run_append_gn h y ad c hnews hl o.type
 unfold Oper.wp
 simp only [execOp, ho, resolve, invoke, builtin, Sem.run_bind, Sem.run_pure, Result.andThen_ok, List.map_toArray, List.map_cons, List.map_nil, hs, hx, hr]
 exact hk v' w' h2 h3 h5
theorem kn_same {v : Vt} (h : v.kn = none) : { v with kn := none } = v := by cases v; simp at h; simp [h]
theorem blocks_kn (n : Nat) (v : Vt) (k : Option Pt) : blocks n { v with kn := k } = blocks n v := by cases n <;> rfl
theorem MLeaf.soil {w w' : World} {v : Vt} (h : MLeaf w v) (hk : Keep (fun x => x = v.b) w w') (hs : Soft w v.b) (hv : ∀ kn pa pg ps ld lf cs us ks, VxAt w v.b kn pa pg ps ld lf cs us ks → VxAt w' v.b false pa pg ps ld lf cs us ks) : MLeaf w' { v with kn := none } := by
 obtain ⟨g, pa, pg, ps, a, x, h1, h2, h3⟩ := h
 exact ⟨g, pa, pg, ps, a, x, hv _ _ _ _ _ _ _ _ _ h1, fun p hp => (by cases hp), h3.keep hk fun b e => by rw [show b = v.b from e]; exact hs.str⟩
theorem MNode.soil {w w' : World} {v : Vt} (h : MNode w v) (hk : Keep (fun x => x = v.b) w w') (hs : Soft w v.b) (hv : ∀ kn pa pg ps ld lf cs us ks, VxAt w v.b kn pa pg ps ld lf cs us ks → VxAt w' v.b false pa pg ps ld lf cs us ks) : MNode w' { v with kn := none } := by
 obtain ⟨g, pa, pg, ps, a1, c1, a2, c2, a3, c3, h1, h2, h3, h4⟩ := h
 exact ⟨g, pa, pg, ps, a1, c1, a2, c2, a3, c3, hv _ _ _ _ _ _ _ _ _ h1, fun p hp => (by cases hp), h3.keep hk (fun b e => by rw [show b = v.b from e]; exact hs.str), KdAt.keep h4 hk (fun b e => by rw [show b = v.b from e]; exact hs)⟩
theorem Mem.soil {w w' : World} {n : Nat} {v : Vt} (hm : Mem w n v) (hl : v.ld = true) (hnd : (blocks n v).Nodup) (hk : Keep (fun x => x = v.b) w w') (hv : ∀ kn pa pg ps ld lf cs us ks, VxAt w v.b kn pa pg ps ld lf cs us ks → VxAt w' v.b false pa pg ps ld lf cs us ks) : Mem w' n { v with kn := none } := by
 have hs := (hm.lt v.b hm.head).1
 cases n with
 | zero => exact ⟨hm.in, Or.inl ((hm.leaf hl).soil hk hs hv)⟩
 | succ n =>
  obtain ⟨h1, h2⟩ := hm.node hl
  refine ⟨hm.in, Or.inl ⟨h1.soil hk hs hv, fun x hx => (h2 x hx).keep hk (fun b e => by rw [show b = v.b from e]; exact hs) fun b hb e => ?_⟩⟩
  rw [show b = v.b from e] at hb
  rw [blocks_at hm.in, List.nodup_cons] at hnd
  exact hnd.1 (List.mem_flatMap.2 ⟨x, hx, hb⟩)
theorem CAt.gone {w w' : World} {K : Kx} {root h : Nat} {T : Tx} (c : CAt w K root h T) {gv' : Value} {gone' : List Int} (hg : w.grownBy w' T.gv.ownBlock) (hG : GnAt w' gv' gone') : CAt (w'.setCell ⟨K.tb, 6, none⟩ gv') K root h { T with gv := gv', gone := gone' } ∧ Keep (fun x => x = K.tb ∨ T.gv.ownBlock = some x) w (w'.setCell ⟨K.tb, 6, none⟩ gv') := by
 have hne : some K.tb ≠ T.gv.ownBlock := fun e => by
  obtain ⟨cur, hc⟩ := own_rowIs c.gn.own K.tb e.symm
  exact absurd (hc.one c.tr.row).1 (by decide)
 have hsb : some K.sb ≠ T.gv.ownBlock := fun e => by
  obtain ⟨cur, hc⟩ := own_rowIs c.gn.own K.sb e.symm
  exact absurd (hc.one c.sh.row).1 (by decide)
 have hmb : some K.mb ≠ T.gv.ownBlock := fun e => by
  obtain ⟨cur, hc⟩ := own_rowIs c.gn.own K.mb e.symm
  exact c.sh.noMap hc
 have hts : K.sb ≠ K.tb := fun e => by
  have := c.tr.row
  rw [← e] at this
  exact absurd (this.one c.sh.row).1 (by decide)
 have htm : K.mb ≠ K.tb := fun e => by
  have := c.tr.row
  rw [← e] at this
  exact c.sh.noMap this
 have hr := c.tr.row.kept hg hne
 refine ⟨⟨⟨hr.put 6 gv'⟩, hG.keep ((Keep.refl (fun x => x = K.tb) w').setCell ⟨K.tb, 6, none⟩ (Or.inl rfl) _) (fun x e k => ?_), ⟨(c.sh.row.kept hg hsb).far ⟨K.tb, 6, none⟩ hts _, (c.sh.map.kept' hg hmb).keep ((Keep.refl (fun x => x = K.tb) w').setCell ⟨K.tb, 6, none⟩ (Or.inl rfl) _) htm⟩⟩, ?_⟩
 ·have k' : x = K.tb := k
  subst k'
  obtain ⟨cur, hc⟩ := own_rowIs hG.own _ e
  exact absurd (hc.one hr).1 (by decide)
 ·exact ((Keep.refl (fun x => x = K.tb ∨ T.gv.ownBlock = some x) w).grown hg fun k e => Or.inl (Or.inr e)).setCell ⟨K.tb, 6, none⟩ (Or.inl (Or.inl rfl)) _
theorem soil_any {K : Kx} {root h : Nat} {T : Tx} {n : Nat} {v : Vt} (w : World) (c : CAt w K root h T) (hm : Mem w n v) (hnd : (blocks n v).Nodup) (hl : v.ld = true) (hg : T.gone.length ≤ 1000000) :
  Calls Tryz.prog 65 #[.pointer (some ⟨K.tb, 0, none⟩), .pointer (some ⟨v.b, 0, none⟩)] w fun e w' => e = .returned (.tuple #[]) ∧ ∃ gv', Mv K root h n w v T w' { v with kn := none } { T with gv := gv', gone := T.gone ++ v.kn.toList.map Pt.a } := by
 obtain ⟨pa, pg, ps, a1, n1, x1, a2, n2, x2, a3, n3, x3, a4, n4, x4, hv⟩ := hm.vxAt
 cases hk : v.kn with
 | none =>
  rw [hk] at hv
  refine (soil_clean K.tb w hv).mono ?_
  rintro e w' ⟨rfl, hb⟩
  refine ⟨rfl, T.gv, ?_⟩
  rw [kn_same hk]
  have := (Mv.refl hm hnd c).on hb
  simp only [Option.toList_none, List.map_nil, List.append_nil]
  exact this
 | some p =>
  have hpa : pa = p.a := by
   cases n with
   | zero =>
    obtain ⟨qa, qg, qs, a, x, h1, h2, -⟩ := (hm.leaf hl).ex
    rw [(hv.one h1).2.1, (h2 p hk).1]
   | succ n =>
    obtain ⟨qa, qg, qs, b1, y1, b2, y2, b3, y3, h1, h2, -⟩ := (hm.node hl).1.ex
    rw [(hv.one h1).2.1, (h2 p hk).1]
  rw [hk, hl] at hv
  subst hpa
  replace hv : VxAt w v.b true p.a pg ps true (.slice a1 n1 x1) (.slice a2 n2 x2) (.slice a3 n3 x3) (.slice a4 n4 x4) := hv
  obtain ⟨ga, gx, hgv⟩ := c.gn.form
  have HV := Lib.hid hv
  have HM := Lib.hid (And.intro hm (And.intro hnd c))
  have c0 := hv.c0
  have c1 := hv.c1
  have f0 := hv.fz 0
  have t6 := c.tr.c6
  have ft6 := c.tr.fz 6
  have htl := c.tr.lt
  have hvl := hv.lt
  have hG := Lib.hid c.gn
  rw [hgv] at t6
  have t6a : ∀ x, (w.alloc x).cell? ⟨K.tb, 6, none⟩ = some (.slice ga T.gone.length gx) := fun x => (World.cell?_alloc_past _ _ _ htl).trans t6
  have c1a : ∀ x, (w.alloc x).cell? ⟨v.b, 1, none⟩ = some (.int .i64 p.a) := fun x => (World.cell?_alloc_past _ _ _ hvl).trans c1
  clear hv hm hnd c
  go_enter Tryz.func65, Tryz.ntmps65
  go_upto_region 1 with (fail)
  obtain ⟨W3, hW3⟩ : ∃ W3, W3 = (w.alloc (.cells #[.int .i64 p.a] 3)).drew := ⟨_, rfl⟩
  have hX3 : Below w.heap.size w W3 := by rw [hW3]; exact below_drew' ((Below.refl _ _).alloc (Nat.le_refl _) _)
  have hG3 := Lib.hid (hG.out.on hX3)
  have hC3 := Lib.hid (HM.out.2.2.on hX3)
  have hV3 := Lib.hid (HV.out.on hX3)
  have hcell : ∀ j u, [Value.int .i64 p.a][j]? = some u → W3.cell? ((⟨w.heap.size, 0, none⟩ : Addr).add j) = some u := fun j u hu => by
   rw [hW3]
   exact cell_drew (cell_one_at _ _ rfl _ _ j u hu)
  have hne : some K.tb ≠ T.gv.ownBlock := fun e => by
   obtain ⟨cur, hc⟩ := own_rowIs hG.out.own K.tb e.symm
   exact absurd (hc.one HM.out.2.2.tr.row).1 (by decide)
  have hnv : some v.b ≠ T.gv.ownBlock := fun e => by
   obtain ⟨cur, hc⟩ := own_rowIs hG.out.own v.b e.symm
   exact absurd (hc.one HV.out.row).1 (by decide)
  go_region_law (first | (rw [← hW3]; refine step_append_gn (by rfl) _ _ (by rfl) _ T.gone (by exact hgv.symm) hG3.out p.a ⟨w.heap.size, 0, none⟩ 1 (by rfl) hcell hg ?_; intro vz wz hgz hgrowz hbz; obtain ⟨ac, yc, rfl⟩ := hgz.form; have z6 := hgrowz.cell hC3.out.tr.c6 hne; have zf := (World.frozen?_of_block (hgrowz.block K.tb hC3.out.tr.lt hne)).trans (hC3.out.tr.fz 6); have HZ := Lib.hid (And.intro hgz (And.intro hgrowz hbz)); have y0 := hgrowz.cell hV3.out.c0 hnv; have yf := (World.frozen?_of_block (hgrowz.block v.b hV3.out.lt hnv)).trans (hV3.out.fz 0); clear hgz hgrowz hbz))
  all_goals
   obtain ⟨hgz, hgrowz, hbz⟩ := HZ.out
   have el : (T.gone ++ [p.a]).length = T.gone.length + 1 := by simp
   rw [el] at hgz hbz
   obtain ⟨hC4, hK4⟩ := hC3.out.gone hgrowz hgz
   have hvt : v.b ≠ K.tb := fun e => by
    have h1 := HV.out.row
    rw [e] at h1
    exact absurd (h1.one HM.out.2.2.tr.row).1 (by decide)
   obtain ⟨W4, hW4⟩ : ∃ W4, W4 = wz.setCell ⟨K.tb, 6, none⟩ (.slice ac (T.gone.length + 1) yc) := ⟨_, rfl⟩
   have y0' : W4.cell? ⟨v.b, 0, none⟩ = some (.bool true) := by rw [hW4]; exact far_block hvt y0
   have yf' : W4.frozen? ⟨v.b, 0, none⟩ = false := by
    rw [hW4, World.frozen?_setCell]
    exact yf
   rw [← hW4] at hC4 hK4 ⊢
   clear hW4 z6 zf y0 yf
   go_wp2_with fail
   refine bodyPost_end (v := .tuple #[]) (by simp [results, Tryz.results65, go_sem]) rfl ⟨rfl, .slice ac (T.gone.length + 1) yc, ?_⟩
   obtain ⟨hm, hnd, c⟩ := HM.out
   have hKw : Keep (fun x => Own K T x) w W4 := (Keep.of_below hX3).trans' (hK4.mono fun x hx => hx.elim (fun e => Or.inl e) (fun e => Or.inr (Or.inr e)))
   have hm4 : Mem W4 n v := hm.keep hKw (fun b hb => (c.soft b hb).1) fun b hb ho => by
    obtain ⟨cur, hc⟩ := hm.cells b hb
    exact (c.notVx hc).1 ho
   have hK5 : Keep (fun x => x = v.b) W4 (W4.setCell ⟨v.b, 0, none⟩ (.bool false)) := (Keep.refl (fun x => x = v.b) W4).setCell ⟨v.b, 0, none⟩ (Or.inl rfl) _
   have hm5 := hm4.soil hl hnd hK5 fun kn pa pg ps ld lf cs us ks hq => ⟨hq.row.put 0 _⟩
   refine ⟨hm5, by rw [blocks_kn]; exact hnd, fun b hb => Or.inl (by rw [blocks_kn] at hb; exact hb), rfl, ?_, fun x hx => ?_, ?_⟩
   ·exact hC4.keep hK5 fun x e => by
     obtain rfl : x = v.b := e
     exact Or.inl (hm4.cells _ hm4.head)
   ·rcases hbz with e | e
    ·rw [e] at hx; exact Or.inl hx
    ·rw [e] at hx
     have := hX3.size
     exact Or.inr (by rw [← Option.some.inj hx]; exact this)
   ·exact (hKw.mono fun x hx => Or.inl hx).trans' (hK5.mono fun x e => Or.inr (by obtain rfl : x = v.b := e; exact hm.head))
open Go.RowKit
attribute [local go_sem ↓] Go.wp_at_zero Go.wp_at_succ
section
variable {w w' : World} {sb tb : Nat} {most : Int} {out : Value}
end
def addE (most : Int) (outs : List Ent) (e : Ent) : List Ent := if (outs.length : Int) < most then outs ++ [e] else outs
def accE (most : Int) (outs l : List Ent) : List Ent := l.foldl (addE most) outs
theorem addE_len (most : Int) (outs : List Ent) (e : Ent) : (addE most outs e).length ≤ outs.length + 1 := by
 unfold addE
 split <;> simp
theorem accE_len (most : Int) (outs : List Ent) : ∀ l : List Ent, (accE most outs l).length ≤ outs.length + l.length := by
 intro l
 induction l generalizing outs with
 | nil => simp [accE]
 | cons e l ih =>
  have h1 := ih (addE most outs e)
  have h2 := addE_len most outs e
  have h3 : accE most outs (e :: l) = accE most (addE most outs e) l := rfl
  rw [h3, List.length_cons]
  omega
theorem SlE.at {w : World} {a : Option Addr} {n c : Nat} {l : List Ent} (h : SlE w (.slice a n c) l) : SlAt Ent.cells 2 w a l := by
 obtain ⟨ao, c', e, hs, -⟩ := h
 simp only [Value.slice.injEq] at e
 obtain ⟨rfl, -, -⟩ := e
 exact hs
theorem infoEn : (Tryz.prog.info? 73).map (fun i => (i.zero, i.size, i.bytes)) = some (some (.agg #[.string ByteArray.empty, .string ByteArray.empty]), 2, 32) := by kernel_rfl
theorem cellsE_snoc (l : List Ent) (u : Ent) : cellsE (l ++ [u]) = cellsE l ++ [.string (S u.key), .string (S u.val)] := by simp [cellsE, Ent.cells]
theorem ent_oneCell (u : Ent) : ∀ v ∈ [Value.string (S u.key), .string (S u.val)], v.oneCell' = true := by
 intro v hv
 simp only [List.mem_cons, List.not_mem_nil, or_false] at hv
 rcases hv with rfl | rfl <;> rfl
open Go.RowKit
attribute [local go_sem ↓] Go.wp_at_zero Go.wp_at_succ
theorem reverse_nil (w : World) : Calls Tryz.prog 52 #[.slice none 0 0] w fun e w' => e = .returned (.tuple #[]) ∧ Below w.heap.size w w' := by
 go_enter Tryz.func52, Tryz.ntmps52
 go_wp2_with fail
 go_loopw [2, 3] (fun i j wr => i = .int .i64 0 ∧ j = .int .i64 (-1) ∧ Below w.heap.size w wr) (fun _ _ _ => 0)
 case atStart => exact ⟨rfl, rfl, by go_grown⟩
 case round =>
  obtain ⟨rfl, rfl, hB⟩ := hrel
  go_wp2_with fail
  exact bodyPost_end (v := .tuple #[]) (by simp [results, Tryz.results52, go_sem]) rfl ⟨rfl, hB⟩
theorem msgAll_nil (v : List UInt8) (th : Bool) (w : World) : Calls Tryz.prog 53 #[.string (S v), .bool th, .slice none 0 0] w fun e w' => e = .returned (.tuple #[.string (S (if th then v else [])), .bool th]) ∧ Below w.heap.size w w' := by
 cases th
 ·go_enter Tryz.func53, Tryz.ntmps53
  go_wp2_with fail
  go_loopw [0, 1, 14] (fun s0 s1 i wr => s0 = .string (S (([] : List UInt8))) ∧ s1 = .bool false ∧ i = .int .i64 0 ∧ Below w.heap.size w wr) (fun _ _ _ _ => 0)
  case atStart => exact ⟨rfl, rfl, rfl, by go_grown⟩
  case round =>
   obtain ⟨rfl, rfl, rfl, hB⟩ := hrel
   go_wp2_with fail
   go_returns
   exact ⟨rfl, hB⟩
 ·go_enter Tryz.func53, Tryz.ntmps53
  go_wp2_with fail
  go_loopw [0, 1, 14] (fun s0 s1 i wr => s0 = .string (S (v)) ∧ s1 = .bool true ∧ i = .int .i64 0 ∧ Below w.heap.size w wr) (fun _ _ _ _ => 0)
  case atStart => exact ⟨rfl, rfl, rfl, by go_grown⟩
  case round =>
   obtain ⟨rfl, rfl, rfl, hB⟩ := hrel
   go_wp2_with fail
   go_returns
   exact ⟨rfl, hB⟩
def FetchLeaf (tb b : Nat) (es : List Ent) (ld : Bool) (w : World) : Prop :=
 ∀ w1, Below w.heap.size w w1 → Calls Tryz.prog 50 #[.pointer (some ⟨tb, 0, none⟩), .pointer (some ⟨b, 0, none⟩), .int .i64 1] w1 fun e w2 => (∃ b' kn pa pg ps a c cs us ks, e = .returned (.tuple #[.pointer (some ⟨b', 0, none⟩), .bool ld, .int .i64 0]) ∧ VxAt w2 b' kn pa pg ps true (.slice a es.length c) cs us ks ∧ BoxE w2 (.agg #[.slice a es.length c]) es) ∧ Below w1.heap.size w1 w2
theorem get_leaf {tb : Nat} {F B L : Int} {ld : Value} {root : Nat} {gone : Value} {fl le : Int} (k : List UInt8) (es : List Ent) (lo : Bool) (w : World) (ht : TrAt w tb F B L ld root 1 gone fl le) (hf : FetchLeaf tb root es lo w) (hr : Rising Ent.key es) (hl : es.length ≤ 100000) :
  Calls Tryz.prog 25 #[.pointer (some ⟨tb, 0, none⟩), .string (S k)] w fun e w' => e = .returned (.tuple #[.string (S ((lookE es k).getD [])), .bool (lookE es k).isSome, .int .i64 (if lo then 1 else 0), .int .i64 0]) ∧ Below w.heap.size w w' := by
 have c4 := ht.c4
 have c5 := ht.c5
 have HG := Lib.hid (fun v w' h => getE_any v es k w' h hl hr)
 generalize lookE es k = o at *
 obtain ⟨vv, tt, hV, h1, h2⟩ : ∃ (vv : List UInt8) (tt : Bool), valV o = .tuple #[.string (S vv), .bool tt] ∧ (if tt then vv else []) = o.getD [] ∧ tt = o.isSome := by
  cases o with
  | none => exact ⟨[], false, rfl, rfl, rfl⟩
  | some v => exact ⟨v, true, rfl, rfl, rfl⟩
 rw [hV] at HG
 rw [← h1, ← h2]
 have HM := Lib.hid (fun w => msgAll_nil vv tt w)
 obtain ⟨Z, hZ⟩ : ∃ Z, Z = (if tt then vv else []) := ⟨_, rfl⟩
 rw [← hZ] at HM ⊢
 clear hZ h1 h2 hV o
 go_enter Tryz.func25, Tryz.ntmps25
 go_wp2_with fail
 go_loopw [8, 9, 10, 11] (fun s8 s9 s10 s11 wr => s8 = .slice none 0 0 ∧ s9 = .int .i64 0 ∧ s10 = .pointer (some ⟨root, 0, none⟩) ∧ s11 = .int .i64 1 ∧ Below w.heap.size w wr) (fun _ _ _ _ _ => 0)
 case atStart => exact ⟨rfl, rfl, rfl, rfl, by go_grown⟩
 case round =>
  obtain ⟨rfl, rfl, rfl, rfl, hB⟩ := hrel
  go_wp2_with fail
  refine (thread (hf wr hB) wr.heap.size wr (Below.refl _ _) (Nat.le_refl _)).mono ?_
  rintro e w2 ⟨⟨b', kn, pa, pg, ps, a, c, cs, us, ks, rfl, hv, hb⟩, hX, -, -, -, hz⟩
  have hB2 := hB.trans (hX.mono hB.size)
  have v5 := hv.c5
  have HB := Lib.hid hb
  clear hb hX
  cases lo
  all_goals
   go_wp2_with fail
   refine (thread (HG.out _ w2 HB.out) w2.heap.size w2 (Below.refl _ _) (Nat.le_refl _)).mono ?_
   rintro e w3 ⟨rfl, hX3, -, -, -, hz3⟩
   have hB3 := hB2.trans (hX3.mono hB2.size)
   go_wp2_with fail
   refine (thread (reverse_nil w3) w3.heap.size w3 (Below.refl _ _) (Nat.le_refl _)).mono ?_
   rintro e w4 ⟨rfl, hX4, -, -, -, hz4⟩
   have hB4 := hB3.trans (hX4.mono hB3.size)
   go_wp2_with fail
   refine (thread (HM.out w4) w4.heap.size w4 (Below.refl _ _) (Nat.le_refl _)).mono ?_
   rintro e w5 ⟨rfl, hX5, -, -, -, hz5⟩
   have hB5 := hB4.trans (hX5.mono hB4.size)
   go_wp2_with fail
   go_returns
   exact ⟨rfl, hB5⟩
open Go.RowKit
attribute [local go_sem ↓] Go.wp_at_zero Go.wp_at_succ
theorem SlU.at {w : World} {a : Option Addr} {n c : Nat} {l : List Upd} (h : SlU w (.slice a n c) l) : SlAt Upd.cells 4 w a l := by
 obtain ⟨ao, c', e, hs, -⟩ := h
 simp only [Value.slice.injEq] at e
 obtain ⟨rfl, -, -⟩ := e
 exact hs
open Go.RowKit
attribute [local go_sem ↓] Go.wp_at_zero Go.wp_at_succ
structure EnOwn (w : World) (v : Value) (l : List Ent) : Prop where
 own : w.ownsRow 0 73 2 v l.length (cellsE l)
 str : ∀ g, v.ownBlock = some g → ∀ cur, RowIs w 73 g cur → ∀ u ∈ cur, ∃ s, u = .string s
theorem EnOwn.nil (w : World) : EnOwn w (.slice none 0 0) [] := ⟨World.ownsRow_nil _ _ _ _, fun g e => by simp [Value.ownBlock] at e⟩
theorem EnOwn.keep {w w' : World} {v : Value} {l : List Ent} {M : Nat → Prop} (h : EnOwn w v l) (hk : Keep M w w') (hM : ∀ x, v.ownBlock = some x → ¬ M x) : EnOwn w' v l :=
 ⟨own_keep h.own hk fun g e => hM g e, fun g e cur hc => by
  refine h.str g e cur ?_
  have := (h.own.lt g e).2
  have h2 := hk.block g this (hM g e)
  exact h2.symm.trans hc⟩
theorem EnOwn.on {w w' : World} {v : Value} {l : List Ent} (h : EnOwn w v l) (hb : Below w.heap.size w w') : EnOwn w' v l := h.keep (Keep.of_below (S := fun _ => False) hb) fun _ _ q => q
theorem zeros_str (k : Nat) : ∀ u ∈ (Builtin.zeroCells #[Value.string ByteArray.empty, Value.string ByteArray.empty] k).toList, ∃ s, u = .string s := by
 intro u hu
 unfold Builtin.zeroCells at hu
 rw [Array.mem_toList_iff, Array.mem_map] at hu
 obtain ⟨i, -, e⟩ := hu
 rw [← e]
 have h2 : (#[Value.string ByteArray.empty, Value.string ByteArray.empty] : Array Value).size = 2 := rfl
 rw [h2]
 rcases Nat.mod_two_eq_zero_or_one i with h | h <;> rw [h] <;> exact ⟨_, rfl⟩
theorem cellsE_two : ∀ l : List Ent, (cellsE l).length = l.length * 2
 | [] => rfl
 | e :: l => by
  have ih := cellsE_two l
  unfold cellsE at ih ⊢
  rw [List.flatMap_cons, List.length_append, ih, List.length_cons]
  show 2 + _ = _
  omega
theorem run_append_en {w : World} {ov : Value} {l : List Ent} (h : EnOwn w ov l) (x : Ent) (a : Addr) (c : Nat) (hx : ∀ j u, [Value.string (S x.key), .string (S x.val)][j]? = some u → w.cell? (a.add j) = some u) (hl : l.length ≤ 1000000) (ty : TypeId) :
  ∃ v' w', (Builtin.append_ #[43, 43] ty #[ov, .slice (some a) 1 c]).run Tryz.prog w = .ok v' w' ∧ EnOwn w' v' (l ++ [x]) ∧ w.grownBy w' ov.ownBlock ∧ (v'.ownBlock = ov.ownBlock ∨ v'.ownBlock = some w.heap.size) := by
 obtain ⟨i0, hi, iz0, iz1, iz2⟩ := info_parts infoEn
 have h1 := ent_oneCell x
 obtain ⟨v', w', hr, h2, h3, -, h5⟩ := run_append_own_at (P := Tryz.prog) w 0 43 ty 73 i0 (.agg #[.string ByteArray.empty, .string ByteArray.empty]) 2 32 Tryz.underlying43 hi iz0 iz1 iz2 rfl (by decide) ov l.length (cellsE l) h.own a 1 c [.string (S x.key), .string (S x.val)] rfl hx h1 (by unfold maxLen; omega) (by omega) (Nat.zero_le _)
 rw [← cellsE_snoc] at h2
 refine ⟨v', w', hr, ⟨by rw [List.length_append]; exact h2, ?_⟩, h3, h5⟩
 have hnew : ∀ u ∈ [Value.string (S x.key), .string (S x.val)], ∃ s, u = .string s := fun u hu => by
  simp only [List.mem_cons, List.not_mem_nil, or_false] at hu
  rcases hu with rfl | rfl <;> exact ⟨_, rfl⟩
 have hgn : ∀ u ∈ cellsE l, ∃ s, u = .string s := fun u hu => by
  unfold cellsE at hu
  obtain ⟨y, -, hu⟩ := List.mem_flatMap.1 hu
  simp only [Ent.cells, List.mem_cons, List.not_mem_nil, or_false] at hu
  rcases hu with rfl | rfl <;> exact ⟨_, rfl⟩
 rcases h.own.2 with ⟨e1, e2⟩ | ⟨g, cap, cur, e1, hbg, hg, hnc, hcm, hcs, htake⟩
 ·rw [e1] at hr
  have hr2 := run_append_nil (P := Tryz.prog) w 43 ty 73 i0 (.agg #[.string ByteArray.empty, .string ByteArray.empty]) Tryz.underlying43 hi iz0 a 1 c [.string (S x.key), .string (S x.val)] (by rw [iz1]; rfl) hx (by omega) (by omega) (by rw [iz2]; omega)
  rw [hr] at hr2
  injection hr2 with ev ew
  subst ev ew
  intro g hg cur hc u hu
  simp only [Value.ownBlock, Option.some.injEq] at hg
  subst hg
  rw [hc.cur (heap_alloc_new w.drew _)] at hu
  rw [Array.toList_append, List.mem_append] at hu
  rcases hu with hu | hu
  ·exact hnew u (by simpa using hu)
  ·exact zeros_str _ u hu
 ·rw [e1] at hr
  by_cases hroom : l.length + 1 ≤ cap
  ·have hr2 := run_append_room (P := Tryz.prog) w 43 ty 73 i0 Tryz.underlying43 hi g l.length cap cur hg a 1 c [.string (S x.key), .string (S x.val)] (by rw [iz1]; rfl) hx h1 hroom (by rw [iz1, hcs]; simp; omega)
   rw [hr] at hr2
   injection hr2 with ev ew
   subst ev ew
   intro g' hg' cur' hc u hu
   simp only [Value.ownBlock, Option.some.injEq] at hg'
   subst hg'
   rw [hc.cur (setRow_heap w g cur _ _ _ hg)] at hu
   have hold := h.str g (by rw [e1]; rfl) cur.toList (by unfold RowIs; rw [Array.toArray_toList]; exact hg)
   rw [List.mem_append, List.mem_append] at hu
   rcases hu with (hu | hu) | hu
   ·exact hold u (List.mem_of_mem_take hu)
   ·exact hnew u hu
   ·exact hold u (List.mem_of_mem_drop hu)
  ·have holds : ∀ j u, (cellsE l)[j]? = some u → w.cell? ((⟨g, 0, none⟩ : Addr).add j) = some u := h.own.cells (g := g) (by rw [e1]; rfl)
   have hr2 := run_append_grow (P := Tryz.prog) w 43 ty 73 i0 (.agg #[.string ByteArray.empty, .string ByteArray.empty]) Tryz.underlying43 hi iz0 ⟨g, 0, none⟩ l.length cap (cellsE l) (by rw [iz1]; exact cellsE_two l) holds a 1 c [.string (S x.key), .string (S x.val)] (by rw [iz1]; rfl) hx (by omega) (by omega) (growslice_fits (by omega) (by rw [iz2]; omega))
   rw [hr] at hr2
   injection hr2 with ev ew
   subst ev ew
   intro g' hg' cur' hc u hu
   simp only [Value.ownBlock, Option.some.injEq] at hg'
   subst hg'
   rw [hc.cur (heap_alloc_new w.drew _)] at hu
   rw [Array.toList_append, List.mem_append, Array.toList_append, List.mem_append] at hu
   rcases hu with (hu | hu) | hu
   ·exact hgn u (by simpa using hu)
   ·exact hnew u (by simpa using hu)
   ·exact zeros_str _ u hu
theorem step_append_en {ops : Array Oper} {o : Oper} {a : Act} {w : World} {K : Act → World → Prop} {Q : Exit → Act → World → Prop} {E0 : Prop} (hgd : ∀ g, o.guard = some g → Region.wanted o (yielded ops a.tmps) = true) (s x : Operand)
  (ho : o.op = Op.call { callee := Callee.builtin Builtin.append, args := #[s, x], argTypes := #[43, 43] })
  (ov : Value) (l : List Ent) (hs : a.eval s = ov) (h : EnOwn w ov l) (y : Ent) (ad : Addr) (c : Nat) (hx : a.eval x = .slice (some ad) 1 c) (hnews : ∀ j u, [Value.string (S y.key), .string (S y.val)][j]? = some u → w.cell? (ad.add j) = some u) (hl : l.length ≤ 1000000)
  (hk : ∀ v' w', EnOwn w' v' (l ++ [y]) → w.grownBy w' ov.ownBlock → (v'.ownBlock = ov.ownBlock ∨ v'.ownBlock = some w.heap.size) → K (a.put o.dst v') w') :
  if Region.wanted o (yielded ops a.tmps) = true then Oper.wp Tryz.prog o a w K Q else E0 := by
 have hw : Region.wanted o (yielded ops a.tmps) = true := by
  cases hg : o.guard with
  | none => simp [Region.wanted, hg]
  | some g => exact hgd g hg
 rw [if_pos hw]
 obtain ⟨v', w', hr, h2, h3, h5⟩ := run_append_en h y ad c hnews hl o.type
 unfold Oper.wp
 simp only [execOp, ho, resolve, invoke, builtin, Sem.run_bind, Sem.run_pure, Result.andThen_ok, List.map_toArray, List.map_cons, List.map_nil, hs, hx, hr]
 exact hk v' w' h2 h3 h5
abbrev scCells (tb : Nat) (slo shi : List UInt8) (most : Int) (out : Value) : List Value := [.pointer (some ⟨tb, 0, none⟩), .string (S slo), .string (S shi), .int .i64 most, out]
structure ScR (w : World) (sb tb : Nat) (slo shi : List UInt8) (most : Int) (outs : List Ent) (oa : Option Addr) (oc : Nat) : Prop where
 row : RowIs w 115 sb (scCells tb slo shi most (.slice oa outs.length oc))
 own : EnOwn w (.slice oa outs.length oc) outs
section
variable {w w' : World} {sb tb : Nat} {slo shi : List UInt8} {most : Int} {outs : List Ent} {oa : Option Addr} {oc : Nat}
theorem ScR.on (h : ScR w sb tb slo shi most outs oa oc) (hb : Below w.heap.size w w') : ScR w' sb tb slo shi most outs oa oc := ⟨h.row.on hb, h.own.on hb⟩
theorem ScR.kept {B : Nat} (h : ScR w sb tb slo shi most outs oa oc) (hb : Below B w w') (hB : w.heap.size ≤ B) : ScR w' sb tb slo shi most outs oa oc := h.on (hb.mono hB)
theorem ScR.lt (h : ScR w sb tb slo shi most outs oa oc) : sb < w.heap.size := h.row.lt
theorem ScR.c0 (h : ScR w sb tb slo shi most outs oa oc) : w.cell? ⟨sb, 0, none⟩ = some (.pointer (some ⟨tb, 0, none⟩)) := h.row.cell 0
theorem ScR.c1 (h : ScR w sb tb slo shi most outs oa oc) : w.cell? ⟨sb, 1, none⟩ = some (.string (S slo)) := h.row.cell 1
theorem ScR.c2 (h : ScR w sb tb slo shi most outs oa oc) : w.cell? ⟨sb, 2, none⟩ = some (.string (S shi)) := h.row.cell 2
theorem ScR.c3 (h : ScR w sb tb slo shi most outs oa oc) : w.cell? ⟨sb, 3, none⟩ = some (.int .i64 most) := h.row.cell 3
theorem ScR.c4 (h : ScR w sb tb slo shi most outs oa oc) : w.cell? ⟨sb, 4, none⟩ = some (.slice oa outs.length oc) := h.row.cell 4
theorem ScR.fz (h : ScR w sb tb slo shi most outs oa oc) (o : Nat) : w.frozen? ⟨sb, o, none⟩ = false := h.row.frozen o
theorem ScR.ne (h : ScR w sb tb slo shi most outs oa oc) : some sb ≠ (Value.slice oa outs.length oc).ownBlock := fun e => by
 obtain ⟨cur, hc⟩ := own_rowIs h.own.own sb e.symm
 exact absurd (hc.one h.row).1 (by decide)
theorem ScR.keep {M : Nat → Prop} (h : ScR w sb tb slo shi most outs oa oc) (hk : Keep M w w') (h1 : ¬ M sb) (h2 : ∀ x, (Value.slice oa outs.length oc).ownBlock = some x → ¬ M x) : ScR w' sb tb slo shi most outs oa oc := ⟨hk.row h.row h1, h.own.keep hk h2⟩
theorem ScR.more {outs' : List Ent} {oa' : Option Addr} {oc' : Nat} {wz : World} (h : ScR w sb tb slo shi most outs oa oc) (hg : w.grownBy wz (Value.slice oa outs.length oc).ownBlock) (hr : EnOwn wz (.slice oa' outs'.length oc') outs') :
  ScR (wz.setCell ⟨sb, 4, none⟩ (.slice oa' outs'.length oc')) sb tb slo shi most outs' oa' oc' := by
 have hrow := h.row.kept hg h.ne
 refine ⟨hrow.put 4 _, hr.keep ((Keep.refl (fun x => x = sb) wz).setCell ⟨sb, 4, none⟩ (Or.inl rfl) _) fun x e q => ?_⟩
 have q' : x = sb := q
 rw [q'] at e
 obtain ⟨cur, hc⟩ := own_rowIs hr.own sb e
 exact absurd (hc.one hrow).1 (by decide)
end
def meetsB (low high slo shi : List UInt8) : Bool := (shi.isEmpty || bl low shi) && (high.isEmpty || bl slo high)
theorem bl_gt (a b : List UInt8) : (!Op.bytesLess a b && !(a == b)) = bl b a := by
 rcases bl_tri a b with rfl | h | h
 ·rw [bl_irrefl]; simp
 ·rw [bl_asymm h, show Op.bytesLess a b = true from h]; rfl
 ·have h2 : Op.bytesLess a b = false := bl_asymm h
  have h3 : (a == b) = false := by simpa using fun e => bl_ne h e.symm
  rw [h, h2, h3]; rfl
theorem withinR {sb tb : Nat} {most : Int} {outs : List Ent} {oa : Option Addr} {oc : Nat} (slo shi k : List UInt8) (w : World) (h : ScR w sb tb slo shi most outs oa oc) :
  Calls Tryz.prog 102 #[.pointer (some ⟨sb, 0, none⟩), .string (S k)] w fun e w' => e = .returned (.bool (withinB k slo shi)) ∧ Below w.heap.size w w' := by
 have c1 := h.c1
 have c2 := h.c2
 unfold withinB
 cases h1 : Op.bytesLess k slo <;> cases shi with
 | nil =>
  go_enter Tryz.func102, Tryz.ntmps102
  go_wp2_with fail
  go_ret
  exact ⟨by simp [h1], by go_grown⟩
 | cons x t =>
  go_enter Tryz.func102, Tryz.ntmps102
  go_wp2_with fail
  go_ret
  exact ⟨by simp [h1], by go_grown⟩
theorem meetsR {sb tb : Nat} {most : Int} {outs : List Ent} {oa : Option Addr} {oc : Nat} (slo shi k l : List UInt8) (w : World) (h : ScR w sb tb slo shi most outs oa oc) :
  Calls Tryz.prog 77 #[.pointer (some ⟨sb, 0, none⟩), .string (S k), .string (S l)] w fun e w' => e = .returned (.bool (meetsB k l slo shi)) ∧ Below w.heap.size w w' := by
 have c1 := h.c1
 have c2 := h.c2
 unfold meetsB
 cases l with
 | nil =>
  cases shi with
  | nil =>
   go_enter Tryz.func77, Tryz.ntmps77
   go_wp2_with fail
   go_ret
   exact ⟨by simp, by go_grown⟩
  | cons x t =>
   cases h1 : Op.bytesLess k (x :: t)
   all_goals
    go_enter Tryz.func77, Tryz.ntmps77
    go_wp2_with fail
    go_ret
    exact ⟨by simp [h1], by go_grown⟩
 | cons y s =>
  cases shi with
  | nil =>
   go_enter Tryz.func77, Tryz.ntmps77
   go_wp2_with fail
   go_ret
   exact ⟨by simp [bl_gt], by go_grown⟩
  | cons x t =>
   cases h1 : Op.bytesLess k (x :: t)
   all_goals
    go_enter Tryz.func77, Tryz.ntmps77
    go_wp2_with fail
    go_ret
    exact ⟨by simp [h1, bl_gt], by go_grown⟩
open Go.RowKit
attribute [local go_sem ↓] Go.wp_at_zero Go.wp_at_succ
abbrev inB (slo shi : List UInt8) (e : Ent) : Bool := withinB e.key slo shi
def accP (most : Int) (slo shi : List UInt8) (outs l : List Ent) : List Ent := accE most outs (l.filter (inB slo shi))
theorem accE_append (most : Int) (outs a b : List Ent) : accE most outs (a ++ b) = accE most (accE most outs a) b := List.foldl_append
theorem accP_append (most : Int) (slo shi : List UInt8) (outs a b : List Ent) : accP most slo shi outs (a ++ b) = accP most slo shi (accP most slo shi outs a) b := by
 unfold accP
 rw [List.filter_append, accE_append]
theorem accP_nil (most : Int) (slo shi : List UInt8) (outs : List Ent) : accP most slo shi outs [] = outs := rfl
theorem accP_step (most : Int) (slo shi : List UInt8) (outs l : List Ent) (j : Nat) (hj : j < l.length) : accP most slo shi outs (l.take (j + 1)) = if withinB l[j].key slo shi = true then addE most (accP most slo shi outs (l.take j)) l[j] else accP most slo shi outs (l.take j) := by
 rw [List.take_succ_eq_append_getElem hj, accP_append]
 unfold accP
 rw [List.filter_cons]
 by_cases h : withinB l[j].key slo shi = true
 ·rw [if_pos h, if_pos h]; rfl
 ·rw [if_neg h, if_neg h]; rfl
theorem accP_len (most : Int) (slo shi : List UInt8) (outs l : List Ent) : (accP most slo shi outs l).length ≤ outs.length + l.length := by
 have h1 := accE_len most outs (l.filter (inB slo shi))
 have h2 := List.length_filter_le (inB slo shi) l
 unfold accP
 omega
theorem entriesR {sb tb : Nat} {slo shi : List UInt8} {most : Int} {outs : List Ent} {oa : Option Addr} {oc : Nat} {a b : Option Addr} {n c m d : Nat} {es : List Ent} {us : List Upd} (w : World) (h : ScR w sb tb slo shi most outs oa oc) (hf : BoxE w (.agg #[.slice a n c]) es) (hu : BoxU w (.agg #[.slice b m d]) us) (he : es.length ≤ 10000) (hr : Rising Ent.key es) (hfi : FineE es) (hul : us.length ≤ 10000) (huw : ∀ u ∈ us, u.Wf) (ho : outs.length ≤ 10000) :
  Calls Tryz.prog 74 #[.pointer (some ⟨sb, 0, none⟩), .agg #[.slice a n c], .agg #[.slice b m d]] w fun e w' => e = .returned (.tuple #[]) ∧ (∃ oa' oc', ScR w' sb tb slo shi most (accP most slo shi outs (onAll es us)) oa' oc' ∧ ∀ g, (Value.slice oa' (accP most slo shi outs (onAll es us)).length oc').ownBlock = some g → (Value.slice oa outs.length oc).ownBlock = some g ∨ w.heap.size ≤ g) ∧ Keep (fun x => x = sb ∨ (Value.slice oa outs.length oc).ownBlock = some x) w w' := by
 obtain ⟨hr', hf', hl'⟩ := onAll_ok es hr hfi us
 have HL := Lib.hid (fun w' h => listU (.agg #[.slice b m d]) us w' h (by omega))
 have HON := Lib.hid (fun w' s h1 h2 => leafOn_any (.agg #[.slice a n c]) es s us w' h1 he hr hfi h2 huw hul)
 have hOw : ∀ g, (Value.slice oa outs.length oc).ownBlock = some g → g < w.heap.size := fun g e => (h.own.own.lt g e).2
 have HOw := Lib.hid hOw
 have hsbw := h.lt
 clear hOw
 have HF := Lib.hid hf
 have HU := Lib.hid hu
 have HH := Lib.hid h
 clear hf hu h hr hfi huw
 generalize onAll es us = E at *
 have HLE := Lib.hid (fun w' a c h => listE (.agg #[.slice a E.length c]) E w' h (by omega))
 go_enter Tryz.func74, Tryz.ntmps74
 go_upto_region 1 with (fail)
 have hb0 := Below.refl w.heap.size w
 obtain ⟨W0, hW_W0⟩ : ∃ W0, W0 = ((w.alloc (.cells #[.slice a n c] 99)).alloc (.cells #[.slice b m d] 103)) := ⟨_, rfl⟩
 rw [← hW_W0]
 have hX_W0 : Below w.heap.size w W0 := by rw [hW_W0]; go_grown
 have gf0 : W0.cell? ⟨w.heap.size, 0, none⟩ = some (.slice a n c) := by rw [hW_W0, World.cell?_alloc_past _ _ _ (by simp <;> omega), World.cell?_alloc_at _ _ _ _ (by simp)]; rfl
 have gu0 : W0.cell? ⟨w.heap.size + 1, 0, none⟩ = some (.slice b m d) := by rw [hW_W0, World.cell?_alloc_at _ _ _ _ (by simp)]; rfl
 clear hW_W0
 have hz_W0 := hX_W0.size
 replace HF := Lib.hid (HF.out.kept hX_W0 (Nat.le_refl _))
 replace HU := Lib.hid (HU.out.kept hX_W0 (Nat.le_refl _))
 replace HH := Lib.hid (HH.out.kept hX_W0 (Nat.le_refl _))
 replace hb0 := hb0.trans (hX_W0.mono hb0.size)
 clear hX_W0
 have hzW := hb0.size
 go_cut [12, 13, 14] (fun s12 s13 s14 wx => ∃ (la : Option Addr) (lc : Nat), s12 = .slice la E.length lc ∧ s13 = .int .i64 E.length ∧ s14 = .int .i64 0 ∧ Hid (wx.ownsRow W0.heap.size 73 2 (.slice la E.length lc) E.length (cellsE E)) ∧ Below W0.heap.size W0 wx)
 case first =>
  go_region_law (first
   | (go_simp; go_at_call 75; refine (HL.out _ (HU.out.kept (below_drew' (Below.refl _ _)) (Nat.le_refl _))).mono ?_; rintro e w1 ⟨⟨v', rfl, hown⟩, hX1⟩; have hY1 := (below_drew' (Below.refl W0.heap.size W0)).trans hX1; obtain ⟨va, vc, rfl⟩ := own_form hown; have gf1 := kept_cell hY1 gf0; have gu1 := kept_cell hY1 gu0)
   | (go_simp; go_at_call 66; refine (HON.out _ _ (HF.out.kept hY1 (Nat.le_refl _)) (SlU.of_own hown).2).mono ?_; rintro e w2 ⟨⟨a2, c2, rfl, hb2⟩, hX2⟩; have hY2 := hY1.trans (hX2.mono hY1.size); have gf2 := kept_cell hY2 gf0)
   | (go_simp; go_at_call 92; refine (HLE.out _ _ _ hb2).mono ?_; rintro e w3 ⟨⟨v3, rfl, hown3⟩, hX3⟩; have hY3 := hY2.trans (hX3.mono hY2.size); obtain ⟨ea, ec, rfl⟩ := own_form hown3))
  all_goals
   have hO3 := Lib.hid (own_base hown3 hY2.size)
   go_wp2_with fail
   go_meet
   exact ⟨_, _, rfl, rfl, rfl, hO3, hY3⟩
 case rest =>
  obtain ⟨la, lc, rfl, rfl, rfl, HE1, hX1⟩ := hcut
  have HH1 := Lib.hid (HH.out.on hX1)
  obtain ⟨w1, hw1⟩ : ∃ w1, w1 = wc := ⟨_, rfl⟩
  subst hw1
  have HX1 := Lib.hid (hb0.trans (hX1.mono hzW))
  have hz1 := hX1.size
  have hzw1 : w.heap.size ≤ w1.heap.size := Nat.le_trans hzW hz1
  clear hX1 gf0 gu0 HL HON HLE HF HU
  go_wp2_with fail
  go_loopw [14] (fun i wr => ∃ (j : Nat) (O : List Ent) (a2 : Option Addr) (c2 : Nat), i = .int .i64 j ∧ j ≤ E.length ∧ Hid (O = accP most slo shi outs (E.take j)) ∧ O.length ≤ outs.length + j ∧ Hid (ScR wr sb tb slo shi most O a2 c2) ∧ (∀ g, (Value.slice a2 O.length c2).ownBlock = some g → (Value.slice oa outs.length oc).ownBlock = some g ∨ w1.heap.size ≤ g) ∧ Keep (fun x => x = sb ∨ (Value.slice oa outs.length oc).ownBlock = some x) w1 wr) (fun i _ => E.length - (intOf i).toNat)
  case atStart => exact ⟨0, outs, oa, oc, rfl, Nat.zero_le _, Lib.hid (by simp [accP, accE]), by omega, HH1, fun g e => Or.inl e, Keep.refl _ _⟩
  case round =>
   obtain ⟨j, O, a2, c2, rfl, hj, HO, hOl, HS, hg2, hK⟩ := hrel
   have hj0 : (0 : Int) ≤ (j : Int) := Int.natCast_nonneg _
   by_cases hjE : j < E.length
   ·have hj1 : (j : Int) < (E.length : Int) := by omega
    have hEr : wr.ownsRow W0.heap.size 73 2 (.slice la E.length lc) E.length (cellsE E) := own_keep HE1.out hK (fun g e q => by
     have h1 := (HE1.out.lt g e).1
     rcases q with rfl | q
     ·omega
     ·have := HOw.out g q; omega)
    obtain ⟨b0, off, ea, hb, t0, t1⟩ := SlAt.cells2 (SlE.of_own hEr).2.at j hjE
    subst ea
    have HST := Lib.hid (accP_step most slo shi outs E j hjE)
    generalize E[j] = u at *
    go_upto_region 4 with (fail)
    obtain ⟨W2, hW2⟩ : ∃ W2, W2 = wr.alloc (.cells #[.string (S u.key), .string (S u.val)] 73) := ⟨_, rfl⟩
    have hX2 : Below wr.heap.size wr W2 := by rw [hW2]; go_grown
    have e0 : W2.cell? ⟨wr.heap.size, 0, none⟩ = some (.string (S u.key)) := by rw [hW2, World.cell?_alloc_at _ _ _ _ rfl]; rfl
    have e1 : W2.cell? ⟨wr.heap.size, 1, none⟩ = some (.string (S u.val)) := by rw [hW2, World.cell?_alloc_at _ _ _ _ rfl]; rfl
    have HS2 := Lib.hid (HS.out.on hX2)
    have hK2 := hK.on hX2
    have hzr := hK.size
    rw [← hW2]
    clear hW2 hb t0 t1 hEr HS hK
    have c3 := HS2.out.c3
    have c4 := HS2.out.c4
    cases hwi : withinB u.key slo shi with
    | false =>
     have HWI := Lib.hid hwi
     clear hwi
     refine WQ.region (C := fun w' => Below W2.heap.size W2 w') (by kernel_rfl) (by kernel_rfl) (below_drew' (Below.refl _ _)) ?_
     refine WV (by rfl) (.pointer (some ⟨sb, 0, none⟩)) (fun w' hw' => ?_) ?_
     ·have hq' := hw'
      go_simp
     try simp only [Act.put, WA, WB, WC]
     refine WV (by rfl) (.pointer (some ⟨wr.heap.size, 0, none⟩)) (fun w' hw' => ?_) ?_
     ·have hq' := hw'
      go_simp
     try simp only [Act.put, WA, WB, WC]
     refine WV (by rfl) (.string (S u.key)) (fun w' hw' => ?_) ?_
     ·have hq' := hw'
      have z0 := kept_cell hw' e0; have z1 := kept_cell hw' c3; have z2 := kept_cell hw' c4; go_simp
     try simp only [Act.put, WA, WB, WC]
     refine WV (by rfl) (.bool false) (fun w' hw' => ?_) ?_
     ·have hq' := hw'
      go_simp
      go_at_call 102
      refine ((show Calls _ _ _ _ (fun e w' => e = .returned (.bool false) ∧ Below _ _ _) from HWI.out ▸ withinR slo shi u.key _ (HS2.out.kept hq' (Nat.le_refl _)))).mono ?_
      rintro e w6 ⟨he, hb6⟩
      exact ⟨he, hq'.trans (hb6.mono hq'.size)⟩
     try simp only [Act.put, WA, WB, WC]
     refine WV (by rfl) (.bool false) (fun w' hw' => ?_) ?_
     ·have hq' := hw'
      go_simp
     try simp only [Act.put, WA, WB, WC]
     refine WS (by rfl) ?_
     try simp only [Act.put, WA, WB, WC]
     refine WS (by rfl) ?_
     try simp only [Act.put, WA, WB, WC]
     refine WS (by rfl) ?_
     try simp only [Act.put, WA, WB, WC]
     refine WS (by rfl) ?_
     try simp only [Act.put, WA, WB, WC]
     refine WS (by rfl) ?_
     try simp only [Act.put, WA, WB, WC]
     refine WS (by rfl) ?_
     try simp only [Act.put, WA, WB, WC]
     refine WS (by rfl) ?_
     try simp only [Act.put, WA, WB, WC]
     refine WS (by rfl) ?_
     try simp only [Act.put, WA, WB, WC]
     refine WS (by rfl) ?_
     try simp only [Act.put, WA, WB, WC]
     refine WS (by rfl) ?_
     try simp only [Act.put, WA, WB, WC]
     refine WV (by rfl) (.bool false) (fun w' hw' => ?_) ?_
     ·have hq' := hw'
      go_simp
     try simp only [Act.put, WA, WB, WC]
     refine WQ.done ?_
     rintro W3 hX3
     have hK3 := hK2.on hX3
     have HS3 := Lib.hid (HS2.out.on hX3)
     have hOa : accP most slo shi outs (E.take (j + 1)) = O := by
      rw [HST.out, if_neg (by rw [HWI.out]; simp), ← HO.out]
     go_wp2_with fail
     exact ⟨⟨j + 1, O, a2, c2, by go_num, by omega, Lib.hid hOa.symm, by omega, HS3, hg2, hK3⟩, by simp [intOf]; omega⟩
    | true =>
    have HWI := Lib.hid hwi
    have HWR := Lib.hid (fun w' (hq : ScR w' sb tb slo shi most O a2 c2) => show Calls Tryz.prog 102 #[.pointer (some ⟨sb, 0, none⟩), .string (S u.key)] w' (fun e w'' => e = .returned (.bool true) ∧ Below w'.heap.size w' w'') from HWI.out ▸ withinR slo shi u.key w' hq)
    clear hwi
    by_cases hm : (O.length : Int) < most
    ·have hmd : decide ((O.length : Int) < most) = true := by simpa using hm
     refine WQ.region (C := fun w' => Below W2.heap.size W2 w') (by kernel_rfl) (by kernel_rfl) (below_drew' (Below.refl _ _)) ?_
     refine WV (by rfl) (.pointer (some ⟨sb, 0, none⟩)) (fun w' hw' => ?_) ?_
     ·have hq' := hw'
      go_simp
     try simp only [Act.put, WA, WB, WC]
     refine WV (by rfl) (.pointer (some ⟨wr.heap.size, 0, none⟩)) (fun w' hw' => ?_) ?_
     ·have hq' := hw'
      go_simp
     try simp only [Act.put, WA, WB, WC]
     refine WV (by rfl) (.string (S u.key)) (fun w' hw' => ?_) ?_
     ·have hq' := hw'
      have z0 := kept_cell hw' e0; have z1 := kept_cell hw' c3; have z2 := kept_cell hw' c4; go_simp
     try simp only [Act.put, WA, WB, WC]
     refine WV (by rfl) (.bool true) (fun w' hw' => ?_) ?_
     ·have hq' := hw'
      go_simp
      go_at_call 102
      refine (HWR.out _ (HS2.out.kept hq' (Nat.le_refl _))).mono ?_
      rintro e w6 ⟨he, hb6⟩
      exact ⟨he, hq'.trans (hb6.mono hq'.size)⟩
     try simp only [Act.put, WA, WB, WC]
     refine WV (by rfl) (.bool true) (fun w' hw' => ?_) ?_
     ·have hq' := hw'
      go_simp
     try simp only [Act.put, WA, WB, WC]
     refine WV (by rfl) (.pointer (some ⟨sb, 0, none⟩)) (fun w' hw' => ?_) ?_
     ·have hq' := hw'
      go_simp
     try simp only [Act.put, WA, WB, WC]
     refine WV (by rfl) (.pointer (some ⟨sb, 0, none⟩)) (fun w' hw' => ?_) ?_
     ·have hq' := hw'
      go_simp
     try simp only [Act.put, WA, WB, WC]
     refine WV (by rfl) (.pointer (some ⟨sb, 4, none⟩)) (fun w' hw' => ?_) ?_
     ·have hq' := hw'
      go_simp
     try simp only [Act.put, WA, WB, WC]
     refine WV (by rfl) (.slice a2 O.length c2) (fun w' hw' => ?_) ?_
     ·have hq' := hw'
      have z0 := kept_cell hw' e0; have z1 := kept_cell hw' c3; have z2 := kept_cell hw' c4; go_simp
     try simp only [Act.put, WA, WB, WC]
     refine WV (by rfl) (.int .i64 O.length) (fun w' hw' => ?_) ?_
     ·have hq' := hw'
      go_simp
     try simp only [Act.put, WA, WB, WC]
     refine WV (by rfl) (.pointer (some ⟨sb, 0, none⟩)) (fun w' hw' => ?_) ?_
     ·have hq' := hw'
      go_simp
     try simp only [Act.put, WA, WB, WC]
     refine WV (by rfl) (.pointer (some ⟨sb, 0, none⟩)) (fun w' hw' => ?_) ?_
     ·have hq' := hw'
      go_simp
     try simp only [Act.put, WA, WB, WC]
     refine WV (by rfl) (.pointer (some ⟨sb, 3, none⟩)) (fun w' hw' => ?_) ?_
     ·have hq' := hw'
      go_simp
     try simp only [Act.put, WA, WB, WC]
     refine WV (by rfl) (.int .i64 most) (fun w' hw' => ?_) ?_
     ·have hq' := hw'
      have z0 := kept_cell hw' e0; have z1 := kept_cell hw' c3; have z2 := kept_cell hw' c4; go_simp
     try simp only [Act.put, WA, WB, WC]
     refine WV (by rfl) (.bool true) (fun w' hw' => ?_) ?_
     ·have hq' := hw'
      go_simp
     try simp only [Act.put, WA, WB, WC]
     refine WV (by rfl) (.bool true) (fun w' hw' => ?_) ?_
     ·have hq' := hw'
      go_simp
     try simp only [Act.put, WA, WB, WC]
     refine WQ.done ?_
     rintro W3 hX3
     have hK3 := hK2.on hX3
     have HS3 := Lib.hid (HS2.out.on hX3)
     have e0 := kept_cell hX3 e0
     have e1 := kept_cell hX3 e1
     have c4 := HS3.out.c4
     have hsl := HS3.out.lt
     have hOa : accP most slo shi outs (E.take (j + 1)) = O ++ [u] := by
      rw [HST.out, if_pos HWI.out, ← HO.out]
      unfold addE
      rw [if_pos hm]
     have HOA := Lib.hid hOa
     have HLN := Lib.hid (show (O ++ [u]).length = O.length + 1 by simp)
     clear hOa
     go_upto_region 5 with (fail)
     have c4a : ∀ x, (W3.alloc x).cell? ⟨sb, 4, none⟩ = some (.slice a2 O.length c2) := fun x => (World.cell?_alloc_past _ _ _ hsl).trans c4
     obtain ⟨W4, hW4⟩ : ∃ W4, W4 = (W3.alloc (.cells #[.string (S u.key), .string (S u.val)] 73)).drew := ⟨_, rfl⟩
     have hX4 : Below W3.heap.size W3 W4 := by rw [hW4]; exact below_drew' ((Below.refl _ _).alloc (Nat.le_refl _) _)
     have HS4 := Lib.hid (HS3.out.on hX4)
     have hcell : ∀ i v, [Value.string (S u.key), .string (S u.val)][i]? = some v → W4.cell? ((⟨W3.heap.size, 0, none⟩ : Addr).add i) = some v := fun i v hv => by
      rw [hW4]
      exact cell_drew (cell_two_new W3 _ _ _ i v hv)
     have HNE := Lib.hid HS4.out.ne
     go_region_law (first | (rw [← hW4]; refine step_append_en (by simp) _ _ (by rfl) _ O (by rfl) HS4.out.own u ⟨W3.heap.size, 0, none⟩ 1 (by rfl) hcell (by omega) ?_; intro vz wz hownwz hgrowwz hbz; obtain ⟨ac, yc, rfl⟩ := own_form hownwz.own; have z4 := hgrowwz.cell HS4.out.c4 HNE.out; have zf := (World.frozen?_of_block (hgrowwz.block sb HS4.out.lt HNE.out)).trans (HS4.out.fz 4); have HGR := Lib.hid (HS4.out.more (outs' := O ++ [u]) (oa' := ac) (oc' := yc) hgrowwz hownwz); have HKG := Lib.hid ((hK3.on hX4).grown hgrowwz (fun g e => (hg2 g e).imp Or.inr id)); have HBZ := Lib.hid hbz; clear hownwz hgrowwz hbz))
     all_goals
      rw [HLN.out] at HGR
      go_wp2_with fail
      refine ⟨⟨j + 1, O ++ [u], ac, yc, by go_num, by omega, Lib.hid HOA.out.symm, by rw [HLN.out]; omega, HGR, fun g e => ?_, HKG.out.setCell ⟨sb, 4, none⟩ (Or.inl (Or.inl rfl)) _⟩, by simp [intOf]; omega⟩
      rcases HBZ.out with h | h
      ·rw [h] at e; exact hg2 g e
      ·rw [h] at e
       have := Option.some.inj e
       have := hX4.size
       have := hX3.size
       have := hX2.size
       exact Or.inr (by omega)
    ·have hmd : decide ((O.length : Int) < most) = false := by simpa using hm
     refine WQ.region (C := fun w' => Below W2.heap.size W2 w') (by kernel_rfl) (by kernel_rfl) (below_drew' (Below.refl _ _)) ?_
     refine WV (by rfl) (.pointer (some ⟨sb, 0, none⟩)) (fun w' hw' => ?_) ?_
     ·have hq' := hw'
      go_simp
     try simp only [Act.put, WA, WB, WC]
     refine WV (by rfl) (.pointer (some ⟨wr.heap.size, 0, none⟩)) (fun w' hw' => ?_) ?_
     ·have hq' := hw'
      go_simp
     try simp only [Act.put, WA, WB, WC]
     refine WV (by rfl) (.string (S u.key)) (fun w' hw' => ?_) ?_
     ·have hq' := hw'
      have z0 := kept_cell hw' e0; have z1 := kept_cell hw' c3; have z2 := kept_cell hw' c4; go_simp
     try simp only [Act.put, WA, WB, WC]
     refine WV (by rfl) (.bool true) (fun w' hw' => ?_) ?_
     ·have hq' := hw'
      go_simp
      go_at_call 102
      refine (HWR.out _ (HS2.out.kept hq' (Nat.le_refl _))).mono ?_
      rintro e w6 ⟨he, hb6⟩
      exact ⟨he, hq'.trans (hb6.mono hq'.size)⟩
     try simp only [Act.put, WA, WB, WC]
     refine WV (by rfl) (.bool true) (fun w' hw' => ?_) ?_
     ·have hq' := hw'
      go_simp
     try simp only [Act.put, WA, WB, WC]
     refine WV (by rfl) (.pointer (some ⟨sb, 0, none⟩)) (fun w' hw' => ?_) ?_
     ·have hq' := hw'
      go_simp
     try simp only [Act.put, WA, WB, WC]
     refine WV (by rfl) (.pointer (some ⟨sb, 0, none⟩)) (fun w' hw' => ?_) ?_
     ·have hq' := hw'
      go_simp
     try simp only [Act.put, WA, WB, WC]
     refine WV (by rfl) (.pointer (some ⟨sb, 4, none⟩)) (fun w' hw' => ?_) ?_
     ·have hq' := hw'
      go_simp
     try simp only [Act.put, WA, WB, WC]
     refine WV (by rfl) (.slice a2 O.length c2) (fun w' hw' => ?_) ?_
     ·have hq' := hw'
      have z0 := kept_cell hw' e0; have z1 := kept_cell hw' c3; have z2 := kept_cell hw' c4; go_simp
     try simp only [Act.put, WA, WB, WC]
     refine WV (by rfl) (.int .i64 O.length) (fun w' hw' => ?_) ?_
     ·have hq' := hw'
      go_simp
     try simp only [Act.put, WA, WB, WC]
     refine WV (by rfl) (.pointer (some ⟨sb, 0, none⟩)) (fun w' hw' => ?_) ?_
     ·have hq' := hw'
      go_simp
     try simp only [Act.put, WA, WB, WC]
     refine WV (by rfl) (.pointer (some ⟨sb, 0, none⟩)) (fun w' hw' => ?_) ?_
     ·have hq' := hw'
      go_simp
     try simp only [Act.put, WA, WB, WC]
     refine WV (by rfl) (.pointer (some ⟨sb, 3, none⟩)) (fun w' hw' => ?_) ?_
     ·have hq' := hw'
      go_simp
     try simp only [Act.put, WA, WB, WC]
     refine WV (by rfl) (.int .i64 most) (fun w' hw' => ?_) ?_
     ·have hq' := hw'
      have z0 := kept_cell hw' e0; have z1 := kept_cell hw' c3; have z2 := kept_cell hw' c4; go_simp
     try simp only [Act.put, WA, WB, WC]
     refine WV (by rfl) (.bool false) (fun w' hw' => ?_) ?_
     ·have hq' := hw'
      go_simp
     try simp only [Act.put, WA, WB, WC]
     refine WV (by rfl) (.bool false) (fun w' hw' => ?_) ?_
     ·have hq' := hw'
      go_simp
     try simp only [Act.put, WA, WB, WC]
     refine WQ.done ?_
     rintro W3 hX3
     have hK3 := hK2.on hX3
     have HS3 := Lib.hid (HS2.out.on hX3)
     have hOa : accP most slo shi outs (E.take (j + 1)) = O := by
      rw [HST.out, if_pos HWI.out, ← HO.out]
      unfold addE
      rw [if_neg hm]
     go_wp2_with fail
     exact ⟨⟨j + 1, O, a2, c2, by go_num, by omega, Lib.hid hOa.symm, by omega, HS3, hg2, hK3⟩, by simp [intOf]; omega⟩
   ·obtain rfl : j = E.length := by omega
    rw [List.take_length] at HO
    go_wp2_with fail
    refine bodyPost_end (v := .tuple #[]) (by simp [results, Tryz.results74, go_sem]) rfl ⟨rfl, ⟨a2, c2, by rw [← HO.out]; exact HS.out, fun g e => ?_⟩, (Keep.of_below HX1.out).trans' hK⟩
    rw [← HO.out] at e
    exact (hg2 g e).imp id (fun h => by omega)
end Go.Proofs.YtafciefjlkdecaaGreat
namespace Go.Proofs.YtafciefjlkdecaaGreat
open Go.RowKit
def Num (u : Value) : Prop := (∃ k, u = .int .u8 k) ∨ ∃ k, u = .int .u32 k
def NoNum (w : World) (b : Nat) : Prop := ∀ o u, w.cell? ⟨b, o, none⟩ = some u → ¬ Num u
theorem RowIs.noNum {w : World} {E : TypeId} {g : Nat} {cur : List Value} (h : RowIs w E g cur) (hc : ∀ u ∈ cur, ¬ Num u) : NoNum w g := fun o u e => by
 rw [h.cell] at e
 exact hc u (List.mem_of_getElem? e)
theorem Keep.cellAt {S : Nat → Prop} {a b : World} {g o : Nat} {v : Value} (h : Keep S a b) (hc : a.cell? ⟨g, o, none⟩ = some v) (hs : ¬ S g) : b.cell? ⟨g, o, none⟩ = some v := by
 rw [World.cell?_of_block (h.block g (World.block_lt_of_cell? a _ hc) hs)]
 exact hc
theorem SlAt.keepN {α : Type} {enc : α → List Value} {k : Nat} {w w' : World} {ao : Option Addr} {l : List α} {S : Nat → Prop} (h : SlAt enc k w ao l) (hk : Keep S w w') (hS : ∀ b, S b → NoNum w b) (henc : ∀ x : α, ∃ (j : Nat) (u : Value), (enc x)[j]? = some u ∧ Num u) : SlAt enc k w' ao l := by
 rcases h with rfl | ⟨b, off, rfl, hb, hc⟩
 ·exact Or.inl rfl
 ·by_cases hl : l = []
  ·exact Or.inl hl
  ·have hl0 : 0 < l.length := List.length_pos_iff.2 hl
   obtain ⟨j, u, hj, hn⟩ := henc l[0]
   have hnS : ¬ S b := fun q => hS b q _ u (hc 0 hl0 j _ hj) hn
   refine Or.inr ⟨b, off, rfl, Nat.lt_of_lt_of_le hb hk.size, fun i hi j x hx => ?_⟩
   rw [World.cell?_of_block (hk.block b hb hnS)]
   exact hc i hi j x hx
theorem SlC.keepN {w w' : World} {v : Value} {l : List Chd} {S : Nat → Prop} (h : SlC w v l) (hk : Keep S w w') (hS : ∀ b, S b → NoNum w b) : SlC w' v l := by
 obtain ⟨ao, c, rfl, hs, h2⟩ := h
 exact ⟨ao, c, rfl, hs.keepN hk hS (fun x => ⟨3, _, rfl, Or.inr ⟨_, rfl⟩⟩), h2⟩
theorem SlU.keepN {w w' : World} {v : Value} {l : List Upd} {S : Nat → Prop} (h : SlU w v l) (hk : Keep S w w') (hS : ∀ b, S b → NoNum w b) : SlU w' v l := by
 obtain ⟨ao, c, rfl, hs, h2⟩ := h
 exact ⟨ao, c, rfl, hs.keepN hk hS (fun x => ⟨0, _, rfl, Or.inl ⟨_, rfl⟩⟩), h2⟩
theorem BoxU.keepN {w w' : World} {v : Value} {l : List Upd} {S : Nat → Prop} (h : BoxU w v l) (hk : Keep S w w') (hS : ∀ b, S b → NoNum w b) : BoxU w' v l := by
 obtain ⟨s, rfl, hs⟩ := h
 exact ⟨s, rfl, hs.keepN hk hS⟩
theorem NodeAt.keepN {w w' : World} {v : Value} {cs : List Chd} {us : List Upd} {S : Nat → Prop} (h : NodeAt w v cs us) (hk : Keep S w w') (hS : ∀ b, S b → NoNum w b) : NodeAt w' v cs us := by
 obtain ⟨a, b, x, y, rfl, h1, h2⟩ := h
 exact ⟨a, b, x, y, rfl, h1.keepN hk hS, h2.keepN hk hS⟩
def ownB (oa : Option Addr) (n oc : Nat) : Option Nat := (Value.slice oa n oc).ownBlock
def S3 (kb sb : Nat) (ob : Option Nat) (x : Nat) : Prop := x = kb ∨ x = sb ∨ ob = some x
section
variable {w w' : World} {X : Kx} {root h : Nat} {T : Tx} {sb : Nat} {slo shi : List UInt8} {most : Int} {outs : List Ent} {oa : Option Addr} {oc : Nat}
theorem s3_row (c : CAt w X root h T) (s : ScR w sb X.tb slo shi most outs oa oc) {x : Nat} (hx : S3 X.sb sb (ownB oa outs.length oc) x) : x < w.heap.size ∧ NoNum w x ∧ ∀ E cur, RowIs w E x cur → E = 27 ∨ E = 115 ∨ E = 73 := by
 rcases hx with rfl | rfl | hx
 ·refine ⟨c.sh.row.lt, c.sh.row.noNum fun u hu => ?_, fun E cur hr => Or.inl (hr.one c.sh.row).1⟩
  simp only [List.mem_cons, List.not_mem_nil, or_false] at hu
  rcases hu with rfl | rfl | rfl <;> simp [Num]
 ·refine ⟨s.lt, s.row.noNum fun u hu => ?_, fun E cur hr => Or.inr (Or.inl (hr.one s.row).1)⟩
  simp only [scCells, List.mem_cons, List.not_mem_nil, or_false] at hu
  rcases hu with rfl | rfl | rfl | rfl | rfl <;> simp [Num]
 ·obtain ⟨cur, hc⟩ := own_rowIs s.own.own x hx
  refine ⟨hc.lt, hc.noNum fun u hu => ?_, fun E cur' hr => Or.inr (Or.inr (hr.one hc).1)⟩
  obtain ⟨q, rfl⟩ := s.own.str x hx cur hc u hu
  simp [Num]
theorem CAt.keep3 (c : CAt w X root h T) (s : ScR w sb X.tb slo shi most outs oa oc) (hk : Keep (fun x => x = sb ∨ ownB oa outs.length oc = some x) w w') : CAt w' X root h T := by
 have hn : ∀ {E : TypeId} {x : Nat} {cur : List Value}, RowIs w E x cur → E ≠ 115 → E ≠ 73 → ¬ (x = sb ∨ ownB oa outs.length oc = some x) := fun {E x cur} hr h1 h2 q => by
  rcases q with rfl | q
  ·exact h1 (hr.one s.row).1
  ·obtain ⟨cur', hc⟩ := own_rowIs s.own.own x q
   exact h2 (hr.one hc).1
 have hmb : ¬ (X.mb = sb ∨ ownB oa outs.length oc = some X.mb) := fun q => by
  rcases q with q | q
  ·exact c.sh.noMap (by have := s.row; rw [← q] at this; exact this)
  ·obtain ⟨cur', hc⟩ := own_rowIs s.own.own X.mb q
   exact c.sh.noMap hc
 refine ⟨⟨hk.row c.tr.row (hn c.tr.row (by decide) (by decide))⟩, c.gn.keep hk fun x e => ?_, c.sh.keep hk (hn c.sh.row (by decide) (by decide)) hmb⟩
 obtain ⟨cur, hc⟩ := own_rowIs c.gn.own x e
 exact hn hc (by decide) (by decide)
theorem ScR.load (s : ScR w sb X.tb slo shi most outs oa oc) (c : CAt w X root h T) (hk : Keep (fun x => x = X.sb) w w') : ScR w' sb X.tb slo shi most outs oa oc :=
 s.keep hk (fun e => by
  have e' : sb = X.sb := e
  have := s.row
  rw [e'] at this
  exact absurd (this.one c.sh.row).1 (by decide)) fun x hx e => by
  have e' : x = X.sb := e
  obtain ⟨cur, hc⟩ := own_rowIs s.own.own x hx
  rw [e'] at hc
  exact absurd (hc.one c.sh.row).1 (by decide)
end
theorem KdAt.keepT {w w' : World} {v : Value} {bs : List Nat} {M : Nat → Prop} (h : KdAt w v bs) (hk : Keep M w w') (hM : ∀ x cur, RowIs w 97 x cur → ¬ M x) : KdAt w' v bs :=
 own_keep h hk fun g e q => by
  obtain ⟨cur, hc⟩ := own_rowIs h g e
  exact hM g cur hc q
theorem Mem.fresh {w w' : World} {n : Nat} {v : Vt} {M : Nat → Prop} (hm : Mem w (n + 1) v) (hl : v.ld = true) (hk : Keep M w w') (hM : ∀ x, M x → NoNum w x) (hr : ∀ x cur, RowIs w 97 x cur → ¬ M x) (hb : ∀ b ∈ blocks (n + 1) v, ¬ M b) (hf : ∀ x ∈ v.ch, x.2.ld = false) : Mem w' (n + 1) v := by
 obtain ⟨⟨-, pa, pg, ps, a1, c1, a2, c2, a3, c3, h1, h2, h3, h4⟩, hkd⟩ := hm.node hl
 refine ⟨hm.in, Or.inl ⟨⟨hl, pa, pg, ps, a1, c1, a2, c2, a3, c3, hk.vx h1 (hb _ hm.head), h2, h3.keepN hk hM, h4.keepT hk hr⟩, fun x hx => ?_⟩⟩
 have hmx := hkd x hx
 have hbx : ¬ M x.2.b := hb _ (mem_flat hm.in hx hmx.head)
 cases n with
 | zero => exact ⟨hmx.in, Or.inr ((hmx.far0 (hf x hx)).keep hk hbx)⟩
 | succ n => exact ⟨hmx.in, Or.inr ⟨(hmx.far (hf x hx)).1.keep hk hbx, (hmx.far (hf x hx)).2⟩⟩
theorem seat_ld {l l' : List (Chd × Vt)} (h : l'.map seat = l.map seat) (hl : ∀ x ∈ l, x.2.ld = false) : ∀ x ∈ l', x.2.ld = false := fun x hx => by
 have : seat x ∈ l.map seat := by rw [← h]; exact List.mem_map_of_mem hx
 obtain ⟨y, hy, e⟩ := List.mem_map.1 this
 have e2 : (seat y).2.ld = (seat x).2.ld := by rw [e]
 have e3 : y.2.ld = x.2.ld := e2
 rw [← e3]
 exact hl y hy
structure Came (X : Kx) (sb : Nat) (ob : Option Nat) (n : Nat) (lo hi : List UInt8) (v v1 : Vt) (w' : World) : Prop where
 ld : v1.ld = true
 mem : Mem w' n v1
 stab : 1 ≤ n → ∀ w2, Keep (S3 X.sb sb ob) w' w2 → Mem w2 n v1
 ok : Ok n lo hi v1
 shf : Shf X.f n v1
 pot : pot n v1 = pot n v
 en : ∀ u, enG n v1 u = enG n v u
def Fet3 (X : Kx) (root h : Nat) (T : Tx) (sb : Nat) (slo shi : List UInt8) (most : Int) (outs : List Ent) (oa : Option Addr) (oc : Nat) (n : Nat) (lo hi : List UInt8) (v : Vt) (w : World) (e : Ending) (w' : World) : Prop :=
 ∃ wr', wr' ≤ T.wr ∧ CAt w' X root h { T with wr := wr' } ∧ Keep (S3 X.sb sb (ownB oa outs.length oc)) w w' ∧ ScR w' sb X.tb slo shi most outs oa oc ∧ ((e = .returned (.tuple #[.pointer none, .bool false, .int .i64 10]) ∧ 0 < T.wr) ∨ ∃ v1 ld, e = .returned (.tuple #[.pointer (some ⟨v1.b, 0, none⟩), .bool ld, .int .i64 0]) ∧ Came X sb (ownB oa outs.length oc) n lo hi v v1 w')
theorem fetch3 {X : Kx} {root h : Nat} {T : Tx} {n : Nat} {v : Vt} {lo hi : List UInt8} {sb : Nat} {slo shi : List UInt8} {most : Int} {outs : List Ent} {oa : Option Addr} {oc : Nat} (hh : Int) (w : World) (hhn : hh = (n : Int) + 1) (c : CAt w X root h T) (hst : ∀ w2, Keep (S3 X.sb sb (ownB oa outs.length oc)) w w2 → Mem w2 n v) (ho : Ok n lo hi v) (hs : Shf X.f n v) (hN : Near X.f) (hp : pot n v ≤ 1000) (hwr : T.wr ≤ 1000) (s : ScR w sb X.tb slo shi most outs oa oc) :
  Calls Tryz.prog 50 #[.pointer (some ⟨X.tb, 0, none⟩), .pointer (some ⟨v.b, 0, none⟩), .int .i64 hh] w fun e w' => Fet3 X root h T sb slo shi most outs oa oc n lo hi v w e w' := by
 have hm := hst w (Keep.refl _ _)
 refine (fetch_any hh w hhn c hm ho hs hN hp hwr).mono ?_
 rintro e w' (⟨hl, rfl, hb⟩ | ⟨v', hl, rfl, hL, hm1, hn1, hb1, c1, hk1⟩ | ⟨hl, rfl, hw, c1, hk1⟩)
 ·exact ⟨T.wr, Nat.le_refl _, c.on hb, Keep.of_below hb, s.on hb, Or.inr ⟨v, false, rfl, hl, hst w' (Keep.of_below hb), fun _ w2 hk => hst w2 ((Keep.of_below hb).trans' hk), ho, hs, rfl, fun _ => rfl⟩⟩
 ·have s1 := s.load c hk1
  have hld : v'.ld = true := hL.ld
  refine ⟨T.wr - 1, Nat.sub_le _ _, c1, hk1.mono fun x e => Or.inl e, s1, Or.inr ⟨v', true, rfl, hld, hm1, fun hn w2 hk => ?_, Ok_back (hL.ok ho), Shf_seat.1 (hL.shf hs), ?_, fun u => ?_⟩⟩
  ·cases n with
   | zero => omega
   | succ n =>
    refine hm1.fresh hld hk (fun x hx => (s3_row c1 s1 hx).2.1) (fun x cur hr q => ?_) (fun b hb q => ?_) (seat_ld hL.ch fun x hx => ((hm.far hl).2 x hx).out.2.1)
    ·rcases (s3_row c1 s1 q).2.2 _ _ hr with e | e | e <;> exact absurd e (by decide)
    ·have h1 := hb1 b hb
     have h2 := (s3_row c s q).1
     omega
  ·have h1 := hL.pot_eq n
   rw [← h1]
   exact (pot_seat n v' v.b v'.mem v'.ld v'.kn).symm
  ·have h1 := hL.enG u n
   rw [← h1]
   exact (enG_seat n v' v.b v'.mem v'.ld v'.kn u).symm
 ·exact ⟨0, Nat.zero_le _, c1, hk1.mono fun x e => Or.inl e, s.load c hk1, Or.inl ⟨rfl, hw⟩⟩
theorem accE_most (most : Int) : ∀ (l outs : List Ent), ((accE most outs l).length : Int) ≤ max (outs.length : Int) most
 | [], outs => by show (outs.length : Int) ≤ _; omega
 | e :: l, outs => by
  have h1 := accE_most most l (addE most outs e)
  have h2 : ((addE most outs e).length : Int) ≤ max (outs.length : Int) most := by
   unfold addE
   split
   ·rw [List.length_append, List.length_singleton]; omega
   ·omega
  show ((accE most (addE most outs e) l).length : Int) ≤ _
  omega
theorem accE_full {most : Int} : ∀ {l outs : List Ent}, most ≤ (outs.length : Int) → accE most outs l = outs
 | [], _, _ => rfl
 | e :: l, outs, h => by
  have h1 : addE most outs e = outs := by unfold addE; rw [if_neg (by omega)]
  show accE most (addE most outs e) l = outs
  rw [h1]
  exact accE_full h
theorem accP_full {most : Int} {slo shi : List UInt8} {l outs : List Ent} (h : most ≤ (outs.length : Int)) : accP most slo shi outs l = outs := accE_full h
theorem accP_miss {most : Int} {slo shi lo hi : List UInt8} {l outs : List Ent} (hm : meetsB lo hi slo shi = false) (hl : ∀ e ∈ l, withinB e.key lo hi = true) : accP most slo shi outs l = outs := by
 unfold accP
 rw [List.filter_eq_nil_iff.2]
 ·rfl
 ·intro e he hw
  obtain ⟨a1, a2⟩ := withinB_iff.1 (hl e he)
  obtain ⟨b1, b2⟩ := withinB_iff.1 (show withinB e.key slo shi = true from hw)
  have h1 : (shi.isEmpty || bl lo shi) = true := under_of.2 (b2.down a1)
  have h2 : (hi.isEmpty || bl slo hi) = true := under_of.2 (a2.down b1)
  unfold meetsB at hm
  rw [h1, h2] at hm
  cases hm
def ScPost (X : Kx) (root h : Nat) (T : Tx) (sb : Nat) (slo shi : List UInt8) (most : Int) (outs : List Ent) (oa : Option Addr) (oc : Nat) (E : List Ent) (w : World) (e : Ending) (w' : World) : Prop :=
 ∃ wr', wr' ≤ T.wr ∧ CAt w' X root h { T with wr := wr' } ∧ Keep (S3 X.sb sb (ownB oa outs.length oc)) w w' ∧ ((e = .returned (.int .i64 10) ∧ 0 < T.wr) ∨ (e = .returned (.int .i64 0) ∧ ∃ oa' oc', ScR w' sb X.tb slo shi most (accP most slo shi outs E) oa' oc' ∧ ∀ g, ownB oa' (accP most slo shi outs E).length oc' = some g → ownB oa outs.length oc = some g ∨ w.heap.size ≤ g))
structure ScIn (X : Kx) (root h : Nat) (T : Tx) (n : Nat) (v : Vt) (lo hi : List UInt8) (sb : Nat) (slo shi : List UInt8) (most : Int) (outs : List Ent) (oa : Option Addr) (oc : Nat) (above : List Upd) (w : World) : Prop where
 c : CAt w X root h T
 st : ∀ w2, Keep (S3 X.sb sb (ownB oa outs.length oc)) w w2 → Mem w2 n v
 ok : Ok n lo hi v
 sh : Shf X.f n v
 near : Near X.f
 pot : pot n v + above.length ≤ 1000
 wr : T.wr ≤ 1000
 s : ScR w sb X.tb slo shi most outs oa oc
 g : Given lo hi above
 m : most ≤ 1000
 o : outs.length ≤ 1000
def ScAll (n : Nat) : Prop := ∀ (X : Kx) (root h : Nat) (T : Tx) (v : Vt) (lo hi : List UInt8) (sb : Nat) (slo shi : List UInt8) (most : Int) (outs : List Ent) (oa : Option Addr) (oc : Nat) (b : Option Addr) (m d : Nat) (above : List Upd) (w : World) (hh : Int),
 ScIn X root h T n v lo hi sb slo shi most outs oa oc above w → BoxU w (.agg #[.slice b m d]) above → hh = (n : Int) + 1 → n ≤ 100 →
 Calls Tryz.prog 43 #[.pointer (some ⟨sb, 0, none⟩), .pointer (some ⟨v.b, 0, none⟩), .int .i64 hh, .agg #[.slice b m d]] w fun e w' => ScPost X root h T sb slo shi most outs oa oc (enG n v above) w e w'
theorem ScIn.on {X : Kx} {root h : Nat} {T : Tx} {n : Nat} {v : Vt} {lo hi : List UInt8} {sb : Nat} {slo shi : List UInt8} {most : Int} {outs : List Ent} {oa : Option Addr} {oc : Nat} {above : List Upd} {w w' : World} (i : ScIn X root h T n v lo hi sb slo shi most outs oa oc above w) (hb : Below w.heap.size w w') : ScIn X root h T n v lo hi sb slo shi most outs oa oc above w' :=
 ⟨i.c.on hb, fun w2 hk => i.st w2 ((Keep.of_below hb).trans' hk), i.ok, i.sh, i.near, i.pot, i.wr, i.s.on hb, i.g, i.m, i.o⟩
theorem ScIn.fetch {X : Kx} {root h : Nat} {T : Tx} {n : Nat} {v : Vt} {lo hi : List UInt8} {sb : Nat} {slo shi : List UInt8} {most : Int} {outs : List Ent} {oa : Option Addr} {oc : Nat} {above : List Upd} {w : World} (i : ScIn X root h T n v lo hi sb slo shi most outs oa oc above w) (hh : Int) (hhn : hh = (n : Int) + 1) :
  Calls Tryz.prog 50 #[.pointer (some ⟨X.tb, 0, none⟩), .pointer (some ⟨v.b, 0, none⟩), .int .i64 hh] w fun e w' => Fet3 X root h T sb slo shi most outs oa oc n lo hi v w e w' :=
 fetch3 hh w hhn i.c i.st i.ok i.sh i.near (by have := i.pot; omega) i.wr i.s
theorem accP_most (most : Int) (slo shi : List UInt8) (outs l : List Ent) (h1 : most ≤ 1000) (h2 : outs.length ≤ 1000) : (accP most slo shi outs l).length ≤ 1000 := by
 have := accE_most most (l.filter (inB slo shi)) outs
 unfold accP
 omega
open Go.RowKit
attribute [local go_sem ↓] Go.wp_at_zero Go.wp_at_succ
theorem vertex_zeroR : ScAll 0 := by
 intro X root h T v lo hi sb slo shi most outs oa oc b m d above w hh hin hu hhn hn
 obtain rfl : hh = 1 := by omega
 have hb0 := Below.refl w.heap.size w
 have HS := Lib.hid hin.s
 have HU := Lib.hid hu
 have HI := Lib.hid hin
 obtain ⟨tb, htb⟩ : ∃ tb, tb = X.tb := ⟨_, rfl⟩
 rw [← htb] at HS
 have HTB := Lib.hid htb
 clear htb hin hu hhn
 go_enter Tryz.func43, Tryz.ntmps43
 go_upto_region 1 with (fail)
 obtain ⟨W, hW_W⟩ : ∃ W, W = (w.alloc (.cells #[.slice b m d] 103)) := ⟨_, rfl⟩
 rw [← hW_W]
 have hX_W : Below w.heap.size w W := by rw [hW_W]; go_grown
 have gu0 : W.cell? ⟨w.heap.size, 0, none⟩ = some (.slice b m d) := by rw [hW_W, World.cell?_alloc_at _ _ _ _ (by simp)]; rfl
 clear hW_W
 have hz_W := hX_W.size
 replace HS := Lib.hid (HS.out.kept hX_W (Nat.le_refl _))
 replace HU := Lib.hid (HU.out.kept hX_W (Nat.le_refl _))
 replace hb0 := hb0.trans (hX_W.mono hb0.size)
 clear hX_W
 have c0 := HS.out.c0
 have HFT := Lib.hid (show Calls Tryz.prog 50 #[.pointer (some ⟨tb, 0, none⟩), .pointer (some ⟨v.b, 0, none⟩), .int .i64 1] W _ from HTB.out ▸ (HI.out.on hb0).fetch 1 (by rfl))
 go_wp2_with fail
 refine HFT.out.mono ?_
 rintro e w2 ⟨wr1, hwr1, c1, k1, s1, ⟨rfl, h0⟩ | ⟨v1, ld, rfl, hv1⟩⟩
 ·have HR := Lib.hid (And.intro hwr1 (And.intro c1 (And.intro k1 h0)))
  have HB0 := Lib.hid hb0
  clear hwr1 c1 k1 s1 h0 hb0
  go_wp2_with fail
  go_ret
  show ScPost X root h T sb slo shi most outs oa oc _ w (.returned (.int .i64 10)) w2
  exact ⟨wr1, HR.out.1, HR.out.2.1, (Keep.of_below HB0.out).trans' HR.out.2.2.1, Or.inl ⟨rfl, HR.out.2.2.2⟩⟩
 ·obtain ⟨-, pa, pg, ps, la, lc, hv, -, hbx⟩ := hv1.mem.leaf hv1.ld
  have v5 := hv.c5
  have hpw : v1.es.length ≤ 1002 ∧ above.length ≤ 1000 := by
   have h1 := HI.out.pot
   have h2 := hv1.pot
   have h3 := pot_es (v := v1) (N := 1000) (by omega)
   omega
  have hgl : ¬ S3 X.sb sb (ownB oa outs.length oc) w.heap.size := fun q => by
   have := (s3_row HI.out.c HI.out.s q).1
   omega
  have gu2 := k1.cellAt gu0 hgl
  have HU2 := Lib.hid (HU.out.keepN k1 fun x q => (s3_row (HI.out.on hb0).c (HI.out.on hb0).s q).2.1)
  have HE := Lib.hid (And.intro hv1.ok.rise0 (And.intro hv1.ok.fine (And.intro hbx HI.out.g)))
  have HV := Lib.hid hv1
  have HR := Lib.hid (And.intro hwr1 (And.intro c1 (And.intro k1 s1)))
  have HB0 := Lib.hid hb0
  have hzz := hb0.size
  have HK := Lib.hid k1.size
  have hol := HI.out.o
  clear hwr1 c1 k1 s1 hb0 hbx hv hv1 hgl gu0 c0
  go_upto_region 5 with (fail)
  have hd : Below w2.heap.size w2 w2.drew := below_drew' (Below.refl _ _)
  go_region_law (first | (go_simp; go_at_call 74; refine (entriesR (tb := X.tb) _ (HR.out.2.2.2.on hd) (HE.out.2.2.1.kept hd (Nat.le_refl _)) (HU2.out.kept hd (Nat.le_refl _)) (by omega) HE.out.1 HE.out.2.1 (by omega) (fun u hu => (HE.out.2.2.2.ok u hu).1.wf) (by omega)).mono ?_; rintro e w4 ⟨rfl, ⟨oa', oc', h4, hg4⟩, hK4⟩))
  all_goals
   have H4 := Lib.hid (And.intro h4 (And.intro hg4 hK4))
   clear h4 hg4 hK4
   go_wp2_with fail
   go_ret
   show ScPost X root h T sb slo shi most outs oa oc _ w (.returned (.int .i64 0)) w4
   obtain ⟨h4, hg4, hK4⟩ := H4.out
   obtain ⟨hwr1, c1, k1, s1⟩ := HR.out
   have hen : enG 0 v above = onAll v1.es above := (HV.out.en above).symm
   have hk4 : Keep (fun x => x = sb ∨ ownB oa outs.length oc = some x) w2 w4 := (Keep.of_below hd).trans' hK4
   refine ⟨wr1, hwr1, c1.keep3 s1 hk4, ((Keep.of_below HB0.out).trans' k1).trans' (hk4.mono fun x q => Or.inr q), Or.inr ⟨rfl, oa', oc', ?_, fun g e => ?_⟩⟩
   ·rw [hen]; exact h4
   ·rw [hen] at e
    refine (hg4 g e).imp id (fun q => ?_)
    have q' : w2.heap.size ≤ g := q
    have := HK.out
    omega
theorem pot_with {n : Nat} {v : Vt} {x : Chd × Vt} (hx : x ∈ v.ch) : v.us.length + pot n x.2 ≤ pot (n + 1) v := by
 have h1 := sumK_le (f := pot n) hx
 rw [pot_succ]
 omega
theorem pot_ch2 {n : Nat} {v : Vt} {N : Nat} (h : pot (n + 1) v ≤ N) : v.ch.length ≤ N / 2 + 2 := by
 rw [pot_succ] at h
 have h1 : dist2 v.ch.length * 2 ≤ dist2 v.ch.length * 2 ^ (n + 1) := Nat.mul_le_mul_left _ (by rw [Nat.pow_succ]; have := Nat.one_le_two_pow (n := n); omega)
 unfold dist2 at h h1
 omega
theorem vertex_succR (n : Nat) (IH : ScAll n) : ScAll (n + 1) := by
 intro X root h T v lo hi sb slo shi most outs oa oc b m d above w hh hin hu hhn hn
 have hb0 := Below.refl w.heap.size w
 have HS := Lib.hid hin.s
 have HU := Lib.hid hu
 have HI := Lib.hid hin
 obtain ⟨tb, htb⟩ : ∃ tb, tb = X.tb := ⟨_, rfl⟩
 rw [← htb] at HS
 have HTB := Lib.hid htb
 have HIH := Lib.hid IH
 have HHN := Lib.hid hhn
 have hne : (hh == 1) = false := by simp; omega
 have hhb : 2 ≤ hh ∧ hh ≤ 1000 := by omega
 clear htb hin hu IH hhn
 go_enter Tryz.func43, Tryz.ntmps43
 go_upto_region 1 with (fail)
 obtain ⟨W, hW_W⟩ : ∃ W, W = (w.alloc (.cells #[.slice b m d] 103)) := ⟨_, rfl⟩
 rw [← hW_W]
 have hX_W : Below w.heap.size w W := by rw [hW_W]; go_grown
 have gu0 : W.cell? ⟨w.heap.size, 0, none⟩ = some (.slice b m d) := by rw [hW_W, World.cell?_alloc_at _ _ _ _ (by simp)]; rfl
 clear hW_W
 have hz_W := hX_W.size
 replace HS := Lib.hid (HS.out.kept hX_W (Nat.le_refl _))
 replace HU := Lib.hid (HU.out.kept hX_W (Nat.le_refl _))
 replace hb0 := hb0.trans (hX_W.mono hb0.size)
 clear hX_W
 have c0 := HS.out.c0
 have HFT := Lib.hid (show Calls Tryz.prog 50 #[.pointer (some ⟨tb, 0, none⟩), .pointer (some ⟨v.b, 0, none⟩), .int .i64 hh] W _ from HTB.out ▸ (HI.out.on hb0).fetch hh HHN.out)
 go_wp2_with fail
 refine HFT.out.mono ?_
 rintro e w2 ⟨wr1, hwr1, c1, k1, s1, ⟨rfl, h0⟩ | ⟨v1, ld, rfl, hv1⟩⟩
 ·have HR := Lib.hid (And.intro hwr1 (And.intro c1 (And.intro k1 h0)))
  have HB0 := Lib.hid hb0
  clear hwr1 c1 k1 s1 h0 hb0
  go_wp2_with fail
  go_ret
  show ScPost X root h T sb slo shi most outs oa oc _ w (.returned (.int .i64 10)) w2
  exact ⟨wr1, HR.out.1, HR.out.2.1, (Keep.of_below HB0.out).trans' HR.out.2.2.1, Or.inl ⟨rfl, HR.out.2.2.2⟩⟩
 ·obtain ⟨⟨-, pa, pg, ps, a1, x1, a2, x2, a3, x3, hv, -, hnd, -⟩, -⟩ := hv1.mem.node hv1.ld
  have hpw : above.length ≤ 1000 ∧ v1.us.length + above.length ≤ 1000 := by
   have h1 := HI.out.pot
   have h2 := hv1.pot
   have h3 := pot_succ n v1
   omega
  have hgl : ¬ S3 X.sb sb (ownB oa outs.length oc) w.heap.size := fun q => by
   have := (s3_row HI.out.c HI.out.s q).1
   omega
  have gu2 := k1.cellAt gu0 hgl
  have HU2 := Lib.hid (HU.out.keepN k1 fun x q => (s3_row (HI.out.on hb0).c (HI.out.on hb0).s q).2.1)
  have v7 := hv.c7
  have HND := Lib.hid hnd
  have HV := Lib.hid hv1
  have HR := Lib.hid (And.intro hwr1 (And.intro c1 (And.intro k1 s1)))
  have HB0 := Lib.hid hb0
  have hul := hpw.2
  obtain ⟨U, hU⟩ : ∃ U, U = v1.us := ⟨_, rfl⟩
  rw [← hU] at v7 HND hul
  have HUU := Lib.hid hU
  clear hwr1 c1 k1 s1 hb0 hnd hv hv1 hgl gu0 c0 HU HS hU hpw
  go_upto_region 8 with (fail)
  obtain ⟨ab, hab⟩ : ∃ ab, ab = w2.heap.size := ⟨_, rfl⟩
  obtain ⟨W3, hW3⟩ : ∃ W3, W3 = w2.alloc (.cells #[.slice a2 U.length x2] 103) := ⟨_, rfl⟩
  have hX3 : Below w2.heap.size w2 W3 := by rw [hW3]; go_grown
  have HA := Lib.hid (show RowIs W3 103 ab [.slice a2 U.length x2] by rw [hW3, hab]; exact RowIs.new _ _ [.slice a2 U.length x2])
  have HND3 := Lib.hid (HND.out.kept hX3 (Nat.le_refl _))
  have HU3 := Lib.hid (HU2.out.kept hX3 (Nat.le_refl _))
  have gu3 := kept_cell hX3 gu2
  rw [← hW3, ← hab]
  have HABE := Lib.hid hab
  clear hW3 v7 gu2 HU2 HND hab
  have habW := HA.out.lt
  go_wp2_with fail
  refine (listU (.agg #[.slice b m d]) above W3 HU3.out (by omega)).mono ?_
  rintro e w4 ⟨⟨v', rfl, hown⟩, hX4⟩
  obtain ⟨la, lc, rfl⟩ := own_form hown
  have HLR := Lib.hid hown
  have HLA := Lib.hid (fun g e => (hown.lt g e).1)
  have HA4 := Lib.hid (HA.out.on hX4)
  have HND4 := Lib.hid (HND3.out.kept hX4 (Nat.le_refl _))
  have HX4 := Lib.hid (show Below w2.heap.size w2 w4 from hX3.trans (hX4.mono hX3.size))
  clear hown gu3 hX4 hX3 HA HND3 HU3
  go_wp2_with fail
  go_loopw [53] (fun i wr => ∃ (j : Nat) (A : List Upd) (qa : Option Addr) (qc : Nat), i = .int .i64 j ∧ j ≤ above.length ∧ A.length ≤ U.length + j ∧ Hid (A = (above.take j).foldl withL U ∧ Rising Upd.key A ∧ Fine A) ∧ Hid (RowIs wr 103 ab [.slice qa A.length qc]) ∧ Hid (BoxU wr (.agg #[.slice qa A.length qc]) A) ∧ Keep (fun x => x = ab) w4 wr) (fun i _ => above.length - (intOf i).toNat)
  case atStart => exact ⟨0, U, a2, x2, rfl, Nat.zero_le _, by omega, Lib.hid ⟨rfl, by rw [HUU.out]; exact HV.out.ok.usr, by rw [HUU.out]; exact tm_fine fun u hu => (HV.out.ok.2.2.1 u hu).1⟩, HA4, Lib.hid ⟨_, rfl, HND4.out.parts.2⟩, Keep.refl _ _⟩
  case round =>
   obtain ⟨j, A, qa, qc, rfl, hj, hAl, HAF, HAR, HAB, hK⟩ := hrel
   have hj0 : (0 : Int) ≤ (j : Int) := Int.natCast_nonneg _
   by_cases hju : j < above.length
   ·have hj1 : (j : Int) < (above.length : Int) := by omega
    have hLr := own_keep HLR.out hK (fun g e q => by subst q; have := HLA.out _ e; omega)
    obtain ⟨b0, off, ea, hb, t0, t1, t2, t3⟩ := SlAt.cells4 (SlU.at (slU_row hLr).2) j hju
    subst ea
    have hfx := tm_fine (fun u hu => (HI.out.g.ok u hu).1) _ (List.getElem_mem hju)
    have HTK := Lib.hid (show (above.take (j + 1)).foldl withL U = withL ((above.take j).foldl withL U) above[j] by rw [List.take_succ_eq_append_getElem hju, List.foldl_append]; rfl)
    obtain ⟨hwf, hvl⟩ := hfx
    generalize above[j] = u at *
    obtain ⟨kd, key, val, dl⟩ := u
    dsimp only at t0 t1 t2 t3 hvl
    have HW := Lib.hid (fun w' h => with_any (.agg #[.slice qa A.length qc]) A kd key val dl w' h (by omega) HAF.out.2.1 HAF.out.2.2 hwf.1 hwf.2)
    have HA2 := Lib.hid (And.intro (show withL A ⟨kd, key, val, dl⟩ = (above.take (j + 1)).foldl withL U by rw [HTK.out, ← HAF.out.1]) (And.intro (withL_rising HAF.out.2.1 ⟨kd, key, val, dl⟩) (withL_fine HAF.out.2.1 HAF.out.2.2 ⟨kd, key, val, dl⟩ ⟨hwf, hvl⟩)))
    have hAl2 := withL_len HAF.out.2.1 ⟨kd, key, val, dl⟩
    go_upto_region 11 with (fail)
    obtain ⟨W5, hW5⟩ : ∃ W5, W5 = wr.alloc (.cells #[.int .u8 kd, .string (S key), .string (S val), .int .u64 dl] 39) := ⟨_, rfl⟩
    have hX5 : Below wr.heap.size wr W5 := by rw [hW5]; go_grown
    have g0 : W5.cell? ⟨wr.heap.size, 0, none⟩ = some (.int .u8 kd) := by rw [hW5, World.cell?_alloc_at _ _ _ _ rfl]; rfl
    have g1 : W5.cell? ⟨wr.heap.size, 1, none⟩ = some (.string (S key)) := by rw [hW5, World.cell?_alloc_at _ _ _ _ rfl]; rfl
    have g2 : W5.cell? ⟨wr.heap.size, 2, none⟩ = some (.string (S val)) := by rw [hW5, World.cell?_alloc_at _ _ _ _ rfl]; rfl
    have g3 : W5.cell? ⟨wr.heap.size, 3, none⟩ = some (.int .u64 dl) := by rw [hW5, World.cell?_alloc_at _ _ _ _ rfl]; rfl
    have HAR5 := Lib.hid (HAR.out.on hX5)
    have HAB5 := Lib.hid (HAB.out.kept hX5 (Nat.le_refl _))
    have hK5 := hK.on hX5
    rw [← hW5]
    clear hW5 hb t0 t1 t2 t3 hLr HAR HAB hX5 hK hwf hvl
    have p0 : W5.cell? ⟨ab, 0, none⟩ = some (.slice qa A.length qc) := HAR5.out.cell 0
    go_wp2_with fail
    refine (HW.out W5 HAB5.out).mono ?_
    rintro e w6 ⟨⟨v', rfl, hbx⟩, hX6⟩
    obtain ⟨sv, rfl, ao, cc, rfl, hrr⟩ := id hbx
    have HB6 := Lib.hid hbx
    have HAR6 := Lib.hid (HAR5.out.on hX6)
    have hK6 := hK5.on hX6
    have q0 : w6.cell? ⟨ab, 0, none⟩ = some (.slice qa A.length qc) := HAR6.out.cell 0
    have qf := HAR6.out.frozen 0
    generalize withL A ⟨kd, key, val, dl⟩ = A2 at *
    clear hbx hrr
    go_wp2_with fail
    exact ⟨⟨j + 1, A2, ao, cc, by go_num, by omega, by omega, HA2, Lib.hid (HAR6.out.put 0 _), Lib.hid (HB6.out.setAt q0 _), hK6.setCell ⟨ab, 0, none⟩ (Or.inl rfl) _⟩, by simp [intOf]; omega⟩
   ·obtain rfl : j = above.length := by omega
    obtain ⟨w5, hw5⟩ : ∃ w5, w5 = wr := ⟨_, rfl⟩
    subst hw5
    have hX5 : Below w2.heap.size w2 w5 := HX4.out.trans (hK.below HX4.out.size (fun x hx => by rw [show x = ab from hx, HABE.out]; exact Nat.le_refl _))
    obtain ⟨hwr1, c1, k1, s1⟩ := HR.out
    have HC5 := Lib.hid (And.intro (c1.on hX5) (s1.on hX5))
    have HST5 := Lib.hid (fun w' (hk : Keep (S3 X.sb sb (ownB oa outs.length oc)) w5 w') => HV.out.stab (by omega) w' ((Keep.of_below hX5).trans' hk))
    have HKW := Lib.hid (show Keep (S3 X.sb sb (ownB oa outs.length oc)) w w5 from ((Keep.of_below HB0.out).trans' k1).on hX5)
    have HWR1 := Lib.hid hwr1
    obtain ⟨V2, hV2⟩ : ∃ V2, V2 = gv (n + 1) v1 above := ⟨_, rfl⟩
    have hVA : V2.us = A := by
     rw [hV2, HAF.out.1, List.take_length, HUU.out]
     rfl
    have hVc : V2.ch = v1.ch := by rw [hV2]; rfl
    have HV2 := Lib.hid (And.intro hV2 (And.intro hVA (And.intro hVc (show Ok (n + 1) lo hi V2 by rw [hV2]; exact gv_ok HV.out.ok HI.out.g))))
    have HEN := Lib.hid (show enG (n + 1) v above = scI (enG n) A V2 v1.ch.length by
     rw [← HV.out.en above]
     show en (n + 1) (gv (n + 1) v1 above) = _
     rw [← hV2, en_index, hVA, hVc])
    clear hV2 hVA hVc
    obtain ⟨⟨-, p1, p2, p3, p4, p5, p6, p7, b3, y3, hv5, -, -, hkd5⟩, -⟩ := (HST5.out w5 (Keep.refl _ _)).node HV.out.ld
    obtain ⟨nk, hnk⟩ : ∃ nk, nk = v1.ch.length := ⟨_, rfl⟩
    have HKD := Lib.hid hkd5
    have v8 := hv5.c8
    rw [← hnk] at v8
    have hnk2 : nk ≤ 502 := by
     have h1 := HI.out.pot
     have h2 := HV.out.pot
     have h3 := pot_ch2 (n := n) (v := v1) (N := 1000) (by omega)
     omega
    have HNK := Lib.hid hnk
    have HABX := Lib.hid (And.intro HAR.out HAB.out)
    have hob := HI.out.o
    have HIM := Lib.hid HI.out.m
    have HAAF := Lib.hid HAF.out.2
    have HAL := Lib.hid (show A.length + pot (n + 1) v1 ≤ 1000 + U.length by
     have h1 := HI.out.pot
     have h2 := HV.out.pot
     omega)
    have hA1 : A.length ≤ 1000 := by omega
    have HRA := Lib.hid HAF.out.2.1
    clear hnk hwr1 c1 k1 s1 hv5 hkd5 HLR HLA HA4 HND4 HAR HAB hK HX4 hX5 HAF
    go_wp2_with fail
    go_loopw [66] (fun i wr => ∃ (j : Nat) (O : List Ent) (oa2 : Option Addr) (oc2 : Nat), i = .int .i64 j ∧ j ≤ nk ∧ O.length ≤ 1000 ∧ Hid (O = accP most slo shi outs (scI (enG n) A V2 j)) ∧ Hid (∃ wr2, wr2 ≤ T.wr ∧ CAt wr X root h { T with wr := wr2 } ∧ Keep (S3 X.sb sb (ownB oa outs.length oc)) w5 wr ∧ ScR wr sb X.tb slo shi most O oa2 oc2 ∧ ∀ g, ownB oa2 O.length oc2 = some g → ownB oa outs.length oc = some g ∨ w5.heap.size ≤ g)) (fun i _ => nk - (intOf i).toNat)
    case atStart => exact ⟨0, outs, oa, oc, rfl, Nat.zero_le _, hob, Lib.hid (by rw [scI_zero, accP_nil]), Lib.hid ⟨wr1, HWR1.out, HC5.out.1, Keep.refl _ _, HC5.out.2, fun g e => Or.inl e⟩⟩
    case round =>
     obtain ⟨j, O, oa2, oc2, rfl, hj, hOl, HO, HRR⟩ := hrel
     have hj0 : (0 : Int) ≤ (j : Int) := Int.natCast_nonneg _
     by_cases hjl : j < nk
     ·have hj1 : (j : Int) < (nk : Int) := by omega
      have hkl : j < v1.ch.length := by rw [← HNK.out]; exact hjl
      obtain ⟨x, hx⟩ : ∃ x, x = v1.ch[j] := ⟨_, rfl⟩
      have hxm : x ∈ v1.ch := by rw [hx]; exact List.getElem_mem hkl
      obtain ⟨wr2, hwr2, c2, k2, s2, hg2⟩ := HRR.out
      have hkr : wr.ownsRow 0 97 1 (.slice b3 nk y3) nk ((v1.ch.map fun x => x.2.b).map vp) := by
       have h0 : KdAt wr (.slice b3 v1.ch.length y3) (v1.ch.map fun x => x.2.b) := KdAt.keepT HKD.out k2 fun x cur hr q => by
        rcases (s3_row HC5.out.1 HC5.out.2 q).2.2 _ _ hr with e | e | e <;> exact absurd e (by decide)
       have h1 : wr.ownsRow 0 97 1 (.slice b3 v1.ch.length y3) (v1.ch.map fun x => x.2.b).length ((v1.ch.map fun x => x.2.b).map vp) := h0
       rw [List.length_map, ← HNK.out] at h1
       exact h1
      obtain ⟨g3, rfl, -, -, hgc⟩ := own_at hkr (by omega)
      have r0 : wr.cell? ⟨g3, j, none⟩ = some (.pointer (some ⟨x.2.b, 0, none⟩)) := by
       have := hgc j (vp x.2.b) (by rw [List.getElem?_map, List.getElem?_map, List.getElem?_eq_getElem hkl, hx]; rfl)
       simpa using this
      obtain ⟨⟨-, p1', p2', p3', a1', x1', a2', x2', p4', p5', hvr, -, hndr, -⟩, -⟩ := (HST5.out wr k2).node HV.out.ld
      have v6 := hvr.c6
      have v7 := hvr.c7
      rw [← HNK.out] at v6
      rw [← HUU.out] at v7
      have HRG := Lib.hid (show Calls Tryz.prog 76 #[.agg #[.slice a1' nk x1', .slice a2' U.length x2'], .int .i64 j] wr fun e w' => e = .returned (.tuple #[.string (S (rngLow v1.cs j)), .string (S (rngHigh v1.cs j))]) ∧ Below wr.heap.size wr w' by
       rw [HNK.out, HUU.out]
       exact range_any (.agg #[.slice a1' v1.ch.length x1', .slice a2' v1.us.length x2']) v1.cs v1.us j wr hndr (by rw [List.length_map, ← HNK.out]; omega) (by omega))
      obtain ⟨lo', hi', hok, hgiv, hkey⟩ := kid_in HV2.out.2.2.2 j (by rw [HV2.out.2.2.1]; exact hkl)
      have hx2 : V2.ch[j]'(by rw [HV2.out.2.2.1]; exact hkl) = x := by
       rw [hx]
       congr 1
       exact HV2.out.2.2.1
      have hcs : V2.cs = v1.cs := by rw [Vt.cs, HV2.out.2.2.1]
      rw [hx2] at hok
      rw [hcs] at hgiv hkey
      rw [HV2.out.2.1] at hgiv
      have hstep : accP most slo shi outs (scI (enG n) A V2 (j + 1)) = accP most slo shi O (enG n x.2 (cutIn A (rngLow v1.cs j) (rngHigh v1.cs j))) := by
       rw [scI_succ (enG n) A V2 j (by rw [HV2.out.2.2.1]; exact hkl), accP_append, ← HO.out, hx2, hcs]
      have hcl := cutIn_le HRA.out (rngLow v1.cs j) (rngHigh v1.cs j)
      generalize rngLow v1.cs j = kl at *
      generalize rngHigh v1.cs j = kg at *
      have HKK := Lib.hid (And.intro hok (And.intro hgiv (And.intro hkey (And.intro hstep hxm))))
      have HCUT := Lib.hid (fun w' hx => cut_any (.agg #[.slice qa A.length qc]) A kl kg w' hx (by omega) HRA.out)
      have HEK := Lib.hid (fun e he => hkey _ ((enG_good hok hgiv).ent e he).2)
      generalize cutIn A kl kg = I at *
      generalize cutOut A kl kg = OU at *
      have HBX := Lib.hid (show BoxU wr (.agg #[.slice qa A.length qc]) A from HABX.out.2.keepN k2 fun x q => (s3_row HC5.out.1 HC5.out.2 q).2.1)
      have hab : ¬ S3 X.sb sb (ownB oa outs.length oc) ab := fun q => by
       rcases (s3_row HC5.out.1 HC5.out.2 q).2.2 _ _ HABX.out.1 with e | e | e <;> exact absurd e (by decide)
      have p0 : wr.cell? ⟨ab, 0, none⟩ = some (.slice qa A.length qc) := (k2.row HABX.out.1 hab).cell 0
      have HS2 := Lib.hid s2
      clear hwr2 c2 k2 s2 hg2 hkr hgc hx hxm hvr hndr hok hgiv hkey hx2 hcs hstep hab v8
      go_wp2_with fail
      refine HRG.out.mono ?_
      rintro e w7 ⟨rfl, hX7⟩
      have HS7 := Lib.hid (HS2.out.on hX7)
      have HBX7 := Lib.hid (HBX.out.kept hX7 (Nat.le_refl _))
      have p7 := kept_cell hX7 p0
      have HB7 := Lib.hid hX7
      have c3 := HS7.out.c3
      have c4 := HS7.out.c4
      have HMT := Lib.hid (fun w' (hq : ScR w' sb X.tb slo shi most O oa2 oc2) => meetsR slo shi kl kg w' hq)
      clear hX7 p0 r0 v6 v7
      have hskip : ∀ w8, Below w7.heap.size w7 w8 → accP most slo shi O (enG n x.2 I) = O → ∃ (j' : Nat) (O' : List Ent) (oa' : Option Addr) (oc' : Nat), Value.int .i64 ((j : Int) + 1) = .int .i64 j' ∧ j' ≤ nk ∧ O'.length ≤ 1000 ∧ Hid (O' = accP most slo shi outs (scI (enG n) A V2 j')) ∧ Hid (∃ wr2, wr2 ≤ T.wr ∧ CAt w8 X root h { T with wr := wr2 } ∧ Keep (S3 X.sb sb (ownB oa outs.length oc)) w5 w8 ∧ ScR w8 sb X.tb slo shi most O' oa' oc' ∧ ∀ g, ownB oa' O'.length oc' = some g → ownB oa outs.length oc = some g ∨ w5.heap.size ≤ g) := fun w8 hX8 hacc => by
       obtain ⟨wr2, hwr2, c2, k2, s2, hg2⟩ := HRR.out
       have hX := HB7.out.trans (hX8.mono HB7.out.size)
       exact ⟨j + 1, O, oa2, oc2, by go_num, by omega, hOl, Lib.hid (by rw [HKK.out.2.2.2.1, hacc]), Lib.hid ⟨wr2, hwr2, c2.on hX, k2.on hX, s2.on hX, hg2⟩⟩
      have HSK := Lib.hid hskip
      clear hskip
      go_upto_region 17 with (fail)
      cases hmt : meetsB kl kg slo shi with
      | false =>
       have HACC := Lib.hid (accP_miss (most := most) (outs := O) hmt HEK.out)
       have HMF := Lib.hid (fun w' (hq : ScR w' sb X.tb slo shi most O oa2 oc2) => show Calls Tryz.prog 77 #[.pointer (some ⟨sb, 0, none⟩), .string (S kl), .string (S kg)] w' (fun e w'' => e = .returned (.bool false) ∧ Below w'.heap.size w' w'') from hmt ▸ HMT.out w' hq)
       clear hmt
       refine WQ.region (C := fun w' => Below w7.heap.size w7 w') (by kernel_rfl) (by kernel_rfl) (below_drew' (Below.refl _ _)) ?_
       refine WV (by rfl) (.pointer (some ⟨sb, 0, none⟩)) (fun w' hw' => ?_) ?_
       ·have hq' := hw'
        go_simp
       try simp only [Act.put, WA, WB, WC]
       refine WV (by rfl) (.string (S kl)) (fun w' hw' => ?_) ?_
       ·have hq' := hw'
        go_simp
       try simp only [Act.put, WA, WB, WC]
       refine WV (by rfl) (.string (S kg)) (fun w' hw' => ?_) ?_
       ·have hq' := hw'
        go_simp
       try simp only [Act.put, WA, WB, WC]
       refine WV (by rfl) (.bool false) (fun w' hw' => ?_) ?_
       ·have hq' := hw'
        go_simp
        go_at_call 77
        refine (HMF.out _ (HS7.out.kept hq' (Nat.le_refl _))).mono ?_
        rintro e w6 ⟨he, hb6⟩
        exact ⟨he, hq'.trans (hb6.mono hq'.size)⟩
       try simp only [Act.put, WA, WB, WC]
       refine WV (by rfl) (.bool true) (fun w' hw' => ?_) ?_
       ·have hq' := hw'
        go_simp
       try simp only [Act.put, WA, WB, WC]
       refine WV (by rfl) (.bool true) (fun w' hw' => ?_) ?_
       ·have hq' := hw'
        go_simp
       try simp only [Act.put, WA, WB, WC]
       refine WS (by rfl) ?_
       try simp only [Act.put, WA, WB, WC]
       refine WS (by rfl) ?_
       try simp only [Act.put, WA, WB, WC]
       refine WS (by rfl) ?_
       try simp only [Act.put, WA, WB, WC]
       refine WS (by rfl) ?_
       try simp only [Act.put, WA, WB, WC]
       refine WS (by rfl) ?_
       try simp only [Act.put, WA, WB, WC]
       refine WS (by rfl) ?_
       try simp only [Act.put, WA, WB, WC]
       refine WS (by rfl) ?_
       try simp only [Act.put, WA, WB, WC]
       refine WS (by rfl) ?_
       try simp only [Act.put, WA, WB, WC]
       refine WS (by rfl) ?_
       try simp only [Act.put, WA, WB, WC]
       refine WS (by rfl) ?_
       try simp only [Act.put, WA, WB, WC]
       refine WV (by rfl) (.bool true) (fun w' hw' => ?_) ?_
       ·have hq' := hw'
        go_simp
       try simp only [Act.put, WA, WB, WC]
       refine WQ.done ?_
       rintro w8 hX8
       have HX8 := Lib.hid hX8
       clear hX8
       go_wp2_with fail
       exact ⟨HSK.out _ HX8.out HACC.out, by simp [intOf]; omega⟩
      | true =>
      have HMF := Lib.hid (fun w' (hq : ScR w' sb X.tb slo shi most O oa2 oc2) => show Calls Tryz.prog 77 #[.pointer (some ⟨sb, 0, none⟩), .string (S kl), .string (S kg)] w' (fun e w'' => e = .returned (.bool true) ∧ Below w'.heap.size w' w'') from hmt ▸ HMT.out w' hq)
      clear hmt
      by_cases hfull : most ≤ (O.length : Int)
      ·have hfd : decide (most ≤ (O.length : Int)) = true := by simpa using hfull
       have HACC := Lib.hid (accP_full (slo := slo) (shi := shi) (l := enG n x.2 I) hfull)
       refine WQ.region (C := fun w' => Below w7.heap.size w7 w') (by kernel_rfl) (by kernel_rfl) (below_drew' (Below.refl _ _)) ?_
       refine WV (by rfl) (.pointer (some ⟨sb, 0, none⟩)) (fun w' hw' => ?_) ?_
       ·have hq' := hw'
        go_simp
       try simp only [Act.put, WA, WB, WC]
       refine WV (by rfl) (.string (S kl)) (fun w' hw' => ?_) ?_
       ·have hq' := hw'
        go_simp
       try simp only [Act.put, WA, WB, WC]
       refine WV (by rfl) (.string (S kg)) (fun w' hw' => ?_) ?_
       ·have hq' := hw'
        go_simp
       try simp only [Act.put, WA, WB, WC]
       refine WV (by rfl) (.bool true) (fun w' hw' => ?_) ?_
       ·have hq' := hw'
        go_simp
        go_at_call 77
        refine (HMF.out _ (HS7.out.kept hq' (Nat.le_refl _))).mono ?_
        rintro e w6 ⟨he, hb6⟩
        exact ⟨he, hq'.trans (hb6.mono hq'.size)⟩
       try simp only [Act.put, WA, WB, WC]
       refine WV (by rfl) (.bool false) (fun w' hw' => ?_) ?_
       ·have hq' := hw'
        go_simp
       try simp only [Act.put, WA, WB, WC]
       refine WV (by rfl) (.bool false) (fun w' hw' => ?_) ?_
       ·have hq' := hw'
        go_simp
       try simp only [Act.put, WA, WB, WC]
       refine WV (by rfl) (.pointer (some ⟨sb, 0, none⟩)) (fun w' hw' => ?_) ?_
       ·have hq' := hw'
        go_simp
       try simp only [Act.put, WA, WB, WC]
       refine WV (by rfl) (.pointer (some ⟨sb, 0, none⟩)) (fun w' hw' => ?_) ?_
       ·have hq' := hw'
        go_simp
       try simp only [Act.put, WA, WB, WC]
       refine WV (by rfl) (.pointer (some ⟨sb, 4, none⟩)) (fun w' hw' => ?_) ?_
       ·have hq' := hw'
        go_simp
       try simp only [Act.put, WA, WB, WC]
       refine WV (by rfl) (.slice oa2 O.length oc2) (fun w' hw' => ?_) ?_
       ·have hq' := hw'
        have z0 := kept_cell hw' c3; have z1 := kept_cell hw' c4; go_simp
       try simp only [Act.put, WA, WB, WC]
       refine WV (by rfl) (.int .i64 O.length) (fun w' hw' => ?_) ?_
       ·have hq' := hw'
        go_simp
       try simp only [Act.put, WA, WB, WC]
       refine WV (by rfl) (.pointer (some ⟨sb, 0, none⟩)) (fun w' hw' => ?_) ?_
       ·have hq' := hw'
        go_simp
       try simp only [Act.put, WA, WB, WC]
       refine WV (by rfl) (.pointer (some ⟨sb, 0, none⟩)) (fun w' hw' => ?_) ?_
       ·have hq' := hw'
        go_simp
       try simp only [Act.put, WA, WB, WC]
       refine WV (by rfl) (.pointer (some ⟨sb, 3, none⟩)) (fun w' hw' => ?_) ?_
       ·have hq' := hw'
        go_simp
       try simp only [Act.put, WA, WB, WC]
       refine WV (by rfl) (.int .i64 most) (fun w' hw' => ?_) ?_
       ·have hq' := hw'
        have z0 := kept_cell hw' c3; have z1 := kept_cell hw' c4; go_simp
       try simp only [Act.put, WA, WB, WC]
       refine WV (by rfl) (.bool true) (fun w' hw' => ?_) ?_
       ·have hq' := hw'
        go_simp
       try simp only [Act.put, WA, WB, WC]
       refine WV (by rfl) (.bool true) (fun w' hw' => ?_) ?_
       ·have hq' := hw'
        go_simp
       try simp only [Act.put, WA, WB, WC]
       refine WQ.done ?_
       rintro w8 hX8
       have HX8 := Lib.hid hX8
       clear hX8
       go_wp2_with fail
       exact ⟨HSK.out _ HX8.out HACC.out, by simp [intOf]; omega⟩
      ·have hfd : decide (most ≤ (O.length : Int)) = false := by simpa using hfull
       refine WQ.region (C := fun w' => Below w7.heap.size w7 w') (by kernel_rfl) (by kernel_rfl) (below_drew' (Below.refl _ _)) ?_
       refine WV (by rfl) (.pointer (some ⟨sb, 0, none⟩)) (fun w' hw' => ?_) ?_
       ·have hq' := hw'
        go_simp
       try simp only [Act.put, WA, WB, WC]
       refine WV (by rfl) (.string (S kl)) (fun w' hw' => ?_) ?_
       ·have hq' := hw'
        go_simp
       try simp only [Act.put, WA, WB, WC]
       refine WV (by rfl) (.string (S kg)) (fun w' hw' => ?_) ?_
       ·have hq' := hw'
        go_simp
       try simp only [Act.put, WA, WB, WC]
       refine WV (by rfl) (.bool true) (fun w' hw' => ?_) ?_
       ·have hq' := hw'
        go_simp
        go_at_call 77
        refine (HMF.out _ (HS7.out.kept hq' (Nat.le_refl _))).mono ?_
        rintro e w6 ⟨he, hb6⟩
        exact ⟨he, hq'.trans (hb6.mono hq'.size)⟩
       try simp only [Act.put, WA, WB, WC]
       refine WV (by rfl) (.bool false) (fun w' hw' => ?_) ?_
       ·have hq' := hw'
        go_simp
       try simp only [Act.put, WA, WB, WC]
       refine WV (by rfl) (.bool false) (fun w' hw' => ?_) ?_
       ·have hq' := hw'
        go_simp
       try simp only [Act.put, WA, WB, WC]
       refine WV (by rfl) (.pointer (some ⟨sb, 0, none⟩)) (fun w' hw' => ?_) ?_
       ·have hq' := hw'
        go_simp
       try simp only [Act.put, WA, WB, WC]
       refine WV (by rfl) (.pointer (some ⟨sb, 0, none⟩)) (fun w' hw' => ?_) ?_
       ·have hq' := hw'
        go_simp
       try simp only [Act.put, WA, WB, WC]
       refine WV (by rfl) (.pointer (some ⟨sb, 4, none⟩)) (fun w' hw' => ?_) ?_
       ·have hq' := hw'
        go_simp
       try simp only [Act.put, WA, WB, WC]
       refine WV (by rfl) (.slice oa2 O.length oc2) (fun w' hw' => ?_) ?_
       ·have hq' := hw'
        have z0 := kept_cell hw' c3; have z1 := kept_cell hw' c4; go_simp
       try simp only [Act.put, WA, WB, WC]
       refine WV (by rfl) (.int .i64 O.length) (fun w' hw' => ?_) ?_
       ·have hq' := hw'
        go_simp
       try simp only [Act.put, WA, WB, WC]
       refine WV (by rfl) (.pointer (some ⟨sb, 0, none⟩)) (fun w' hw' => ?_) ?_
       ·have hq' := hw'
        go_simp
       try simp only [Act.put, WA, WB, WC]
       refine WV (by rfl) (.pointer (some ⟨sb, 0, none⟩)) (fun w' hw' => ?_) ?_
       ·have hq' := hw'
        go_simp
       try simp only [Act.put, WA, WB, WC]
       refine WV (by rfl) (.pointer (some ⟨sb, 3, none⟩)) (fun w' hw' => ?_) ?_
       ·have hq' := hw'
        go_simp
       try simp only [Act.put, WA, WB, WC]
       refine WV (by rfl) (.int .i64 most) (fun w' hw' => ?_) ?_
       ·have hq' := hw'
        have z0 := kept_cell hw' c3; have z1 := kept_cell hw' c4; go_simp
       try simp only [Act.put, WA, WB, WC]
       refine WV (by rfl) (.bool false) (fun w' hw' => ?_) ?_
       ·have hq' := hw'
        go_simp
       try simp only [Act.put, WA, WB, WC]
       refine WV (by rfl) (.bool false) (fun w' hw' => ?_) ?_
       ·have hq' := hw'
        go_simp
       try simp only [Act.put, WA, WB, WC]
       refine WQ.done ?_
       rintro w8 hX8
       have p8 := kept_cell hX8 p7
       have HBX8 := Lib.hid (HBX7.out.kept hX8 (Nat.le_refl _))
       have HB8 := Lib.hid (HB7.out.trans (hX8.mono HB7.out.size))
       clear hX8 c3 c4 p7
       go_wp2_with fail
       refine (HCUT.out w8 HBX8.out).mono ?_
       rintro e w9 ⟨⟨z1, z2, rfl, hb1, hb2⟩, hX9⟩
       obtain ⟨i1, d1, rfl, hb1'⟩ := hb1.open
       obtain ⟨i2, d2, rfl, -⟩ := hb2.open
       have HB1 := Lib.hid hb1'
       have hb9 := HB8.out.trans (hX9.mono HB8.out.size)
       clear hb1 hb2 hb1' p8 hX9
       go_upto_region 19 with (fail)
       obtain ⟨W10, hW_W10⟩ : ∃ W10, W10 = ((w9.alloc (.cells #[.slice i1 I.length d1] 103)).alloc (.cells #[.slice i2 OU.length d2] 103)) := ⟨_, rfl⟩
       rw [← hW_W10]
       have hX_W10 : Below w9.heap.size w9 W10 := by rw [hW_W10]; go_grown
       have gi0 : W10.cell? ⟨w9.heap.size, 0, none⟩ = some (.slice i1 I.length d1) := by rw [hW_W10, World.cell?_alloc_past _ _ _ (by simp <;> omega), World.cell?_alloc_at _ _ _ _ (by simp)]; rfl
       have gq0 : W10.cell? ⟨w9.heap.size + 1, 0, none⟩ = some (.slice i2 OU.length d2) := by rw [hW_W10, World.cell?_alloc_at _ _ _ _ (by simp)]; rfl
       clear hW_W10
       have hz_W10 := hX_W10.size
       replace HB1 := Lib.hid (HB1.out.kept hX_W10 (Nat.le_refl _))
       replace hb9 := hb9.trans (hX_W10.mono hb9.size)
       clear hX_W10
       have hwh : IntKind.i64.wrap (hh - 1) = hh - 1 := IntWalk.i64_in _ (by omega)
       have HB9 := Lib.hid hb9
       have HKC := Lib.hid (show ∃ wr2 : Nat, wr2 ≤ T.wr ∧ Calls Tryz.prog 43 #[.pointer (some ⟨sb, 0, none⟩), .pointer (some ⟨x.2.b, 0, none⟩), .int .i64 (hh - 1), .agg #[.slice i1 I.length d1]] W10 (fun e w' => ScPost X root h { T with wr := wr2 } sb slo shi most O oa2 oc2 (enG n x.2 I) W10 e w') ∧ (Keep (S3 X.sb sb (ownB oa outs.length oc)) w5 W10 ∧ ∀ g, ownB oa2 O.length oc2 = some g → ownB oa outs.length oc = some g ∨ w5.heap.size ≤ g) from by
        obtain ⟨wr2, hwr2, c2, k2, s2, hg2⟩ := HRR.out
        obtain ⟨hok, hgiv, -, -, hxm⟩ := HKK.out
        have kW := k2.on HB9.out
        refine ⟨wr2, hwr2, HIH.out X root h { T with wr := wr2 } x.2 lo' hi' sb slo shi most O oa2 oc2 i1 I.length d1 I W10 (hh - 1) ⟨c2.on HB9.out, fun w' hk => ?_, hok, HV.out.shf.2 x hxm, HI.out.near, ?_, Nat.le_trans hwr2 HI.out.wr, s2.on HB9.out, hgiv, HIM.out, hOl⟩ HB1.out (by have := HHN.out; omega) (by omega), kW, hg2⟩
        ·have hk2 := kW.trans hk (fun y q => by
          rcases q with q | q | q
          ·exact Or.inl (Or.inl q)
          ·exact Or.inl (Or.inr (Or.inl q))
          ·exact (hg2 y q).imp (fun r => Or.inr (Or.inr r)) id)
         exact ((HST5.out w' hk2).node HV.out.ld).2 x hxm
        ·have h1 := pot_with (n := n) hxm
         have h2 := HAL.out
         rw [HUU.out] at h2
         omega)
       obtain ⟨wr2, hwr2, hcall, hkw⟩ := HKC.out
       have HCALL := Lib.hid hcall
       have HKW2 := Lib.hid (And.intro hwr2 hkw)
       clear hcall hkw hwr2 hb9
       go_wp2_with fail
       refine HCALL.out.mono ?_
       rintro e w11 ⟨wr3, hwr3, c3, k3, ⟨rfl, h0⟩ | ⟨rfl, oa', oc', s', hg'⟩⟩
       ·have HF := Lib.hid (And.intro hwr3 (And.intro c3 (And.intro k3 h0)))
        clear hwr3 c3 k3 h0
        go_wp2_with fail
        go_ret
        show ScPost X root h T sb slo shi most outs oa oc _ w (.returned (.int .i64 10)) w11
        obtain ⟨hwr3, c3, k3, h0⟩ := HF.out
        obtain ⟨hwr2, k5, hg2⟩ := HKW2.out
        have k4 := k5.trans k3 (fun y q => by
         rcases q with q | q | q
         ·exact Or.inl (Or.inl q)
         ·exact Or.inl (Or.inr (Or.inl q))
         ·exact (hg2 y q).imp (fun r => Or.inr (Or.inr r)) id)
        exact ⟨wr3, Nat.le_trans hwr3 hwr2, c3, HKW.out.trans' k4, Or.inl ⟨rfl, Nat.lt_of_lt_of_le h0 hwr2⟩⟩
       ·have HF := Lib.hid (And.intro hwr3 (And.intro c3 (And.intro k3 (And.intro s' hg'))))
        have hO2 := accP_most most slo shi O (enG n x.2 I) HIM.out hOl
        have HST2 := Lib.hid HKK.out.2.2.2.1
        generalize accP most slo shi O (enG n x.2 I) = O2 at *
        clear hwr3 c3 k3 s' hg'
        go_wp2_with fail
        obtain ⟨hwr3, c3, k3, s', hg'⟩ := HF.out
        obtain ⟨hwr2, k5, hg2⟩ := HKW2.out
        have k4 := k5.trans k3 (fun y q => by
         rcases q with q | q | q
         ·exact Or.inl (Or.inl q)
         ·exact Or.inl (Or.inr (Or.inl q))
         ·exact (hg2 y q).imp (fun r => Or.inr (Or.inr r)) id)
        exact ⟨⟨j + 1, O2, oa', oc', by go_num, by omega, hO2, Lib.hid HST2.out.symm, Lib.hid ⟨wr3, Nat.le_trans hwr3 hwr2, c3, k4, s', fun g e => (hg' g e).elim (fun r => hg2 g r) (fun r => Or.inr (Nat.le_trans k5.size r))⟩⟩, by simp [intOf]; omega⟩
     ·obtain rfl : j = nk := by omega
      go_wp2_with fail
      go_ret
      show ScPost X root h T sb slo shi most outs oa oc _ w (.returned (.int .i64 0)) wr
      obtain ⟨wr2, hwr2, c2, k2, s2, hg2⟩ := HRR.out
      have hO := HO.out
      rw [HNK.out, ← HEN.out] at hO
      refine ⟨wr2, hwr2, c2, HKW.out.trans' k2, Or.inr ⟨rfl, oa2, oc2, ?_, fun g e => ?_⟩⟩
      ·rw [← hO]; exact s2
      ·rw [← hO] at e
       exact (hg2 g e).imp id (fun r => Nat.le_trans HKW.out.size r)
theorem vertex_any : ∀ n, ScAll n
 | 0 => vertex_zeroR
 | n + 1 => vertex_succR n (vertex_any n)
open Go.RowKit
attribute [local go_sem ↓] Go.wp_at_zero Go.wp_at_succ
theorem kept_frozen {w w' : World} {b o o' : Nat} {v : Value} (hb : Below w.heap.size w w') (h : w.cell? ⟨b, o', none⟩ = some v) (hf : w.frozen? ⟨b, o, none⟩ = false) : w'.frozen? ⟨b, o, none⟩ = false :=
 ((bcell hb).2 b o (World.block_lt_of_cell? w _ h)).trans hf
theorem Mv.at {K : Kx} {root h n : Nat} {w w' : World} {v v' : Vt} {T : Tx} (hm : Mem w n v) (c : CAt w K root h T) (hk : Keep (fun x => x = v.b) w w') (hm' : Mem w' n v') (hb : v'.b = v.b) (hbl : blocks n v' = blocks n v) (hnd : (blocks n v).Nodup) : Mv K root h n w v T w' v' T :=
 ⟨hm', by rw [hbl]; exact hnd, fun b q => Or.inl (by rw [hbl] at q; exact q), hb, c.keep hk fun x e => by
  obtain rfl : x = v.b := e
  exact Or.inl (hm.cells _ hm.head), fun _ q => Or.inl q, hk.mono fun x e => Or.inr (by obtain rfl : x = v.b := e; exact hm.head)⟩
theorem tree_strs {K : Kx} {root h n : Nat} {w : World} {v : Vt} {T : Tx} (hm : Mem w n v) (c : CAt w K root h T) : ∀ b, (Own K T b ∨ b ∈ blocks n v) → NoStr w b := fun b hb => hb.elim (fun q => (c.soft b q).1.str) (fun q => (hm.lt b q).1.str)
theorem Mv.slU {K : Kx} {root h n : Nat} {w w' : World} {v v' : Vt} {T T' : Tx} {s : Value} {l : List Upd} (m : Mv K root h n w v T w' v' T') (hm : Mem w n v) (c : CAt w K root h T) (hs : SlU w s l) : SlU w' s l := hs.keep m.keep (tree_strs hm c)
theorem Given.fine {lo hi : List UInt8} {l : List Upd} (h : Given lo hi l) : ∀ u ∈ l, u.Wf := fun u hu => (h.ok u hu).1.wf
theorem Mem.setE {w w' : World} {v : Vt} {es : List Ent} {a : Option Addr} {x : Nat} (hm : Mem w 0 v) (hl : v.ld = true) (hv : ∀ kn pa pg ps ld lf cs us ks, VxAt w v.b kn pa pg ps ld lf cs us ks → VxAt w' v.b kn pa pg ps ld (.slice a es.length x) cs us ks) (hb : BoxE w' (.agg #[.slice a es.length x]) es) : Mem w' 0 { v with es := es } := by
 obtain ⟨g, pa, pg, ps, a0, x0, h1, h2, -⟩ := hm.leaf hl
 exact ⟨hm.in, Or.inl ⟨g, pa, pg, ps, a, x, hv _ _ _ _ _ _ _ _ _ h1, h2, hb⟩⟩
theorem Mem.setU {w w' : World} {n : Nat} {v : Vt} {us : List Upd} {a : Option Addr} {x : Nat} (hm : Mem w (n + 1) v) (hl : v.ld = true) (hnd : (blocks (n + 1) v).Nodup) (hk : Keep (fun x => x = v.b) w w') (hv : ∀ kn pa pg ps ld lf cs us' ks, VxAt w v.b kn pa pg ps ld lf cs us' ks → VxAt w' v.b kn pa pg ps ld lf cs (.slice a us.length x) ks) (hb : BoxU w' (.agg #[.slice a us.length x]) us) : Mem w' (n + 1) { v with us := us } := by
 obtain ⟨⟨g, pa, pg, ps, a1, c1, a2, c2, a3, c3, h1, h2, h3, h4⟩, hkids⟩ := hm.node hl
 have hs := (hm.lt v.b hm.head).1
 have hS : ∀ b, b = v.b → Soft w b := fun b e => by rw [e]; exact hs
 refine ⟨hm.in, Or.inl ⟨⟨g, pa, pg, ps, a1, c1, a, x, a3, c3, hv _ _ _ _ _ _ _ _ _ h1, h2, ?_, KdAt.keep h4 hk hS⟩, fun y hy => (hkids y hy).keep hk hS fun b hb e => ?_⟩⟩
 ·exact NodeAt.mk' ((h3.parts.1).keep hk fun b e => (hS b e).str) hb.slice
 ·rw [e, ] at hb
  rw [blocks_at hm.in, List.nodup_cons] at hnd
  exact hnd.1 (List.mem_flatMap.2 ⟨y, hy, hb⟩)
theorem blocks_us (n : Nat) (v : Vt) (us : List Upd) : blocks n { v with us := us } = blocks n v := by cases n <;> rfl
theorem blocks_es (n : Nat) (v : Vt) (es : List Ent) : blocks n { v with es := es } = blocks n v := by cases n <;> rfl
theorem give_leafT {K : Kx} {root h : Nat} {T : Tx} {v : Vt} {lo hi : List UInt8} (s : Value) (l : List Upd) (w : World) (c : CAt w K root h T) (hm : Mem w 0 v) (hnd : (blocks 0 v).Nodup) (hl : v.ld = true) (ho : Ok 0 lo hi v) (hp : pot 0 v ≤ 1000) (hgl : Given lo hi l) (hll : l.length ≤ 1000) (hsl : SlU w s l) (hg : T.gone.length ≤ 1000000) :
  Calls Tryz.prog 40 #[.pointer (some ⟨K.tb, 0, none⟩), .pointer (some ⟨v.b, 0, none⟩), s] w fun e w' => e = .returned (.tuple #[]) ∧ ∃ gv', Mv K root h 0 w v T w' (gv 0 { v with kn := none } l) { T with gv := gv', gone := T.gone ++ v.kn.toList.map Pt.a } := by
 have HS := Lib.hid (soil_any w c hm hnd hl hg)
 have hes := pot_es hp
 have HO := Lib.hid (fun (x : Value) w1 h1 h2 => leafOn_any x v.es s l w1 h1 (by omega) ho.rise0 ho.fine h2 hgl.fine (by omega))
 have HM := Lib.hid (And.intro hm (And.intro hnd (And.intro c hsl)))
 obtain ⟨sa, sc, rfl, -⟩ := hsl
 clear c hm hnd ho hp hgl hg
 go_enter Tryz.func40, Tryz.ntmps40
 go_wp2_with fail
 refine HS.out.mono ?_
 rintro e w1 ⟨rfl, gv', m1⟩
 have HM1 := Lib.hid m1
 obtain ⟨g, pa, pg, ps, a, x, hv, hpt, hbx⟩ := m1.mem.leaf hl
 have HV := Lib.hid hv
 have HB := Lib.hid hbx
 have v8 := hv.c8
 have v5 := hv.c5
 have vf := hv.fz 5
 have HSL := Lib.hid (m1.slU HM.out.1 HM.out.2.2.1 HM.out.2.2.2)
 clear m1 hv hbx
 go_wp2_with fail
 refine (HO.out _ w1 HB.out HSL.out).mono ?_
 rintro e w2 ⟨⟨a', c', rfl, hb2⟩, hX2⟩
 have HM2 := Lib.hid (HM1.out.on hX2)
 have HV2 := Lib.hid (HV.out.on hX2)
 have v5' := HV2.out.c5
 have vf' := HV2.out.fz 5
 have HB2 := Lib.hid hb2
 go_wp2_with fail
 refine bodyPost_ret (v := .tuple #[]) (by simp [results, Tryz.results40, go_sem]) rfl ⟨rfl, gv', HM2.out.trans ?_⟩
 have hK : Keep (fun x => x = v.b) w2 (w2.setCell ⟨v.b, 5, none⟩ (.slice a' (onAll v.es l).length c')) := (Keep.refl (fun x => x = v.b) w2).setCell ⟨v.b, 5, none⟩ (Or.inl rfl) _
 have hS := (HM2.out.mem.lt v.b HM2.out.mem.head).1
 refine Mv.at HM2.out.mem HM2.out.cx hK (HM2.out.mem.setE hl (fun kn pa pg ps ld lf cs us ks hq => hq.putL _) (HB2.out.keep hK fun b e => by rw [show b = v.b from e]; exact hS.str)) rfl (blocks_es 0 { v with kn := none } _) HM2.out.nodup
theorem gv_take {n : Nat} {v : Vt} {l : List Upd} {j : Nat} (hj : j < l.length) : gv (n + 1) v (l.take (j + 1)) = { v with us := withL ((l.take j).foldl withL v.us) l[j] } := by
 have e : (l.take (j + 1)).foldl withL v.us = withL ((l.take j).foldl withL v.us) l[j] := by rw [List.take_succ_eq_append_getElem hj, List.foldl_append]; rfl
 simp only [gv]
 rw [e]
theorem give_nodeT {K : Kx} {root h n : Nat} {T : Tx} {v : Vt} {lo hi : List UInt8} (s : Value) (l : List Upd) (w : World) (c : CAt w K root h T) (hm : Mem w (n + 1) v) (hnd : (blocks (n + 1) v).Nodup) (hl : v.ld = true) (ho : Ok (n + 1) lo hi v) (hp : pot (n + 1) v ≤ 1000) (hgl : Given lo hi l) (hll : l.length ≤ 1000) (hsl : SlU w s l) (hg : T.gone.length ≤ 1000000) :
  Calls Tryz.prog 40 #[.pointer (some ⟨K.tb, 0, none⟩), .pointer (some ⟨v.b, 0, none⟩), s] w fun e w' => e = .returned (.tuple #[]) ∧ ∃ gv', Mv K root h (n + 1) w v T w' (gv (n + 1) { v with kn := none } l) { T with gv := gv', gone := T.gone ++ v.kn.toList.map Pt.a } := by
 have HS := Lib.hid (soil_any w c hm hnd hl hg)
 have hus := pot_us hp
 have hpos : 0 < v.ch.length := List.length_pos_iff.2 ho.okk.ne
 have HFO := Lib.hid (fun j => FoldOk.fold (P := fun k => withinB k lo hi = true) (l.take j) v.us ⟨ho.usr, fun u hu => (ho.2.2.1 u hu).1, fun u hu => (ho.2.2.1 u hu).2⟩ (fun u hu => (hgl.ok u (List.mem_of_mem_take hu)).1) (fun u hu => (hgl.ok u (List.mem_of_mem_take hu)).2))
 have HLE := Lib.hid (fun j => fold_len (l.take j) v.us ho.usr)
 have HM := Lib.hid (And.intro hm (And.intro hnd (And.intro c hsl)))
 have HG := Lib.hid hgl
 obtain ⟨sa, sc, rfl, -⟩ := hsl
 clear c hm hnd ho hp hgl hg
 go_enter Tryz.func40, Tryz.ntmps40
 go_wp2_with fail
 refine HS.out.mono ?_
 rintro e w1 ⟨rfl, gv', m1⟩
 have HM1 := Lib.hid m1
 obtain ⟨⟨g, pa, pg, ps, a1, x1, a2, x2, a3, x3, hv, -⟩, -⟩ := m1.mem.node hl
 have hpi : ((v.ch.length : Int) == 0) = false := by simp; intro e; rw [e] at hpos; simp at hpos
 have v8 := hv.c8
 have HSL := Lib.hid (m1.slU HM.out.1 HM.out.2.2.1 HM.out.2.2.2)
 clear m1 hv hpos
 go_wp2_with fail
 go_loopw [28] (fun i wr => ∃ j : Nat, i = .int .i64 j ∧ j ≤ l.length ∧ Hid (Mv K root h (n + 1) w v T wr (gv (n + 1) { v with kn := none } (l.take j)) { T with gv := gv', gone := T.gone ++ v.kn.toList.map Pt.a } ∧ SlU wr (.slice sa l.length sc) l)) (fun i _ => l.length - (intOf i).toNat)
 case atStart => exact ⟨0, rfl, Nat.zero_le _, Lib.hid ⟨HM1.out, HSL.out⟩⟩
 case round =>
  obtain ⟨j, rfl, hj, HR⟩ := hrel
  have hj0 : (0 : Int) ≤ (j : Int) := Int.natCast_nonneg _
  by_cases hjl : j < l.length
  ·have hj1 : (j : Int) < (l.length : Int) := by omega
   obtain ⟨b0, off, rfl, hb0, t0, t1, t2, t3⟩ := HR.out.2.cells4 j hjl
   have HU := Lib.hid (show l[j].Wf ∧ (gv (n + 1) { v with kn := none } (l.take (j + 1))) = { v with kn := none, us := withL ((l.take j).foldl withL v.us) l[j] } from ⟨HG.out.fine _ (List.getElem_mem hjl), gv_take (n := n) hjl⟩)
   generalize l[j] = u at *
   obtain ⟨kd, key, val, dl⟩ := u
   dsimp only at t0 t1 t2 t3
   go_upto_region 6 with (fail)
   obtain ⟨W1, hW1⟩ : ∃ W1, W1 = wr.alloc (.cells #[.int .u8 kd, .string (S key), .string (S val), .int .u64 dl] 39) := ⟨_, rfl⟩
   have hX1 : Below wr.heap.size wr W1 := by rw [hW1]; go_grown
   have g0 : W1.cell? ⟨wr.heap.size, 0, none⟩ = some (.int .u8 kd) := by rw [hW1, World.cell?_alloc_at _ _ _ _ rfl]; rfl
   have g1 : W1.cell? ⟨wr.heap.size, 1, none⟩ = some (.string (S key)) := by rw [hW1, World.cell?_alloc_at _ _ _ _ rfl]; rfl
   have g2 : W1.cell? ⟨wr.heap.size, 2, none⟩ = some (.string (S val)) := by rw [hW1, World.cell?_alloc_at _ _ _ _ rfl]; rfl
   have g3 : W1.cell? ⟨wr.heap.size, 3, none⟩ = some (.int .u64 dl) := by rw [hW1, World.cell?_alloc_at _ _ _ _ rfl]; rfl
   have HR1 := Lib.hid (show Mv K root h (n + 1) w v T W1 (gv (n + 1) { v with kn := none } (l.take j)) { T with gv := gv', gone := T.gone ++ v.kn.toList.map Pt.a } ∧ SlU W1 (.slice (some ⟨b0, off, none⟩) l.length sc) l from ⟨HR.out.1.on hX1, HR.out.2.kept hX1 (Nat.le_refl _)⟩)
   rw [← hW1]
   clear hW1 hX1 t0 t1 t2 t3 hb0 HR
   obtain ⟨⟨-, qa, qg, qs, b1, y1, b2, y2, b3, y3, hv1, -, hn1, -⟩, -⟩ := HR1.out.1.mem.node hl
   have HV1 := Lib.hid hv1
   have v7 := hv1.c7
   have vf := hv1.fz 7
   have hbu := hn1.parts.2
   have HB1 := Lib.hid (show BoxU W1 (.agg #[.slice b2 ((l.take j).foldl withL v.us).length y2]) ((l.take j).foldl withL v.us) from ⟨_, rfl, hbu⟩)
   have v7' : W1.cell? ⟨v.b, 7, none⟩ = some (.slice b2 ((l.take j).foldl withL v.us).length y2) := v7
   have hlen := HLE.out j
   have HWI := Lib.hid (fun (w2 : World) (hb : Below W1.heap.size W1 w2) => with_any (.agg #[.slice b2 ((l.take j).foldl withL v.us).length y2]) ((l.take j).foldl withL v.us) kd key val dl w2 (HB1.out.kept hb (Nat.le_refl _)) (by have := hlen; rw [List.length_take] at this; omega) (HFO.out j).rise (tm_fine (HFO.out j).tm) HU.out.1.1 HU.out.1.2)
   clear hv1 hn1 hbu v7 hlen
   generalize hU : (l.take j).foldl withL v.us = US at *
   have hdr : Below W1.heap.size W1 W1.drew := below_drew' (Below.refl _ _)
   go_region_law (first | (go_simp; go_at_call 67; refine (HWI.out W1.drew hdr).mono ?_; rintro e w4 ⟨⟨v', rfl, hb4⟩, hX4⟩; obtain ⟨a4, c4, rfl, hb4'⟩ := hb4.open; have z7 := kept_cell hX4 (cell_drew v7'); have zf := kept_frozen hX4 (cell_drew v7') (frozen_drew vf)))
   all_goals
    have hX : Below W1.heap.size W1 w4 := hdr.trans (hX4.mono (Nat.le_refl _))
    have hV4 := HV1.out.on hX
    have hM4 := HR1.out.1.on hX
    have hS4 : SlU w4 (.slice (some ⟨b0, off, none⟩) l.length sc) l := HR1.out.2.kept hX (Nat.le_refl _)
    have hK : Keep (fun x => x = v.b) w4 (w4.setCell ⟨v.b, 7, none⟩ (.slice a4 (withL US ⟨kd, key, val, dl⟩).length c4)) := (Keep.refl (fun x => x = v.b) w4).setCell ⟨v.b, 7, none⟩ (Or.inl rfl) _
    have hSo := (hM4.mem.lt v.b hM4.mem.head).1
    have hstr : ∀ b, b = v.b → NoStr w4 b := fun b e => by rw [e]; exact hSo.str
    have hM5 := hM4.trans (Mv.at hM4.mem hM4.cx hK (hM4.mem.setU (us := withL US ⟨kd, key, val, dl⟩) hl hM4.nodup hK (fun kn pa pg ps ld lf cs us ks hq => ⟨hq.row.put 7 _⟩) (hb4'.keep hK hstr)) rfl (blocks_us (n + 1) _ _) hM4.nodup)
    have HR5 := Lib.hid (show Mv K root h (n + 1) w v T (w4.setCell ⟨v.b, 7, none⟩ (.slice a4 (withL US ⟨kd, key, val, dl⟩).length c4)) (gv (n + 1) { v with kn := none } (l.take (j + 1))) { T with gv := gv', gone := T.gone ++ v.kn.toList.map Pt.a } ∧ SlU (w4.setCell ⟨v.b, 7, none⟩ (.slice a4 (withL US ⟨kd, key, val, dl⟩).length c4)) (.slice (some ⟨b0, off, none⟩) l.length sc) l from ⟨by rw [HU.out.2]; exact hM5, hS4.keep hK hstr⟩)
    clear hX hV4 hM4 hS4 hK hSo hstr hM5
    go_wp2_with fail
    exact ⟨⟨j + 1, by go_num, by omega, HR5⟩, by simp [intOf]; omega⟩
  ·obtain rfl : j = l.length := by omega
   go_wp2_with fail
   refine bodyPost_end (v := .tuple #[]) (by simp [results, Tryz.results40, go_sem]) rfl ⟨rfl, gv', ?_⟩
   have := HR.out.1
   rw [List.take_length] at this
   exact this
theorem give_any {K : Kx} {root h n : Nat} {T : Tx} {v : Vt} {lo hi : List UInt8} (s : Value) (l : List Upd) (w : World) (c : CAt w K root h T) (hm : Mem w n v) (hnd : (blocks n v).Nodup) (hl : v.ld = true) (ho : Ok n lo hi v) (hp : pot n v ≤ 1000) (hgl : Given lo hi l) (hll : l.length ≤ 1000) (hsl : SlU w s l) (hg : T.gone.length ≤ 1000000) :
  Calls Tryz.prog 40 #[.pointer (some ⟨K.tb, 0, none⟩), .pointer (some ⟨v.b, 0, none⟩), s] w fun e w' => e = .returned (.tuple #[]) ∧ ∃ gv', Mv K root h n w v T w' (gv n { v with kn := none } l) { T with gv := gv', gone := T.gone ++ v.kn.toList.map Pt.a } := by
 cases n with
 | zero => exact give_leafT s l w c hm hnd hl ho hp hgl hll hsl hg
 | succ n => exact give_nodeT s l w c hm hnd hl ho hp hgl hll hsl hg
end Go.Proofs.YtafciefjlkdecaaGreat
namespace Go.Proofs.YtafciefjlkdecaaGreat
open Go.RowKit
abbrev PtrAt (w : World) (ao : Option Addr) (l : List Nat) : Prop := SlAt (fun b : Nat => [vp b]) 1 w ao l
abbrev ChdAt (w : World) (ao : Option Addr) (l : List Chd) : Prop := SlAt Chd.cells 4 w ao l
def cellsVx (l : List Nat) : List Value := l.map vp
theorem cellsVx_len (l : List Nat) : (cellsVx l).length = l.length * 1 := by simp [cellsVx]
theorem cellsVx_append (a b : List Nat) : cellsVx (a ++ b) = cellsVx a ++ cellsVx b := by simp [cellsVx]
theorem cellsVx_oneCell (l : List Nat) : ∀ v ∈ cellsVx l, v.oneCell' = true := fun v hv => by
 obtain ⟨b, -, rfl⟩ := List.mem_map.1 hv
 rfl
theorem SlAt.cellsVx {w : World} {b off : Nat} {l : List Nat} (h : ∀ (i : Nat) (hi : i < l.length) (j : Nat) (x : Value), ([vp l[i]])[j]? = some x → w.cell? ⟨b, off + i * 1 + j, none⟩ = some x) : ∀ j u, (cellsVx l)[j]? = some u → w.cell? ⟨b, off + j, none⟩ = some u := fun j u hu => by
 have hj := (List.getElem?_eq_some_iff.1 hu).1
 rw [cellsVx_len, Nat.mul_one] at hj
 have := h j hj 0 (vp l[j]) rfl
 rw [Nat.mul_one, Nat.add_zero] at this
 rw [this]
 unfold YtafciefjlkdecaaGreat.cellsVx at hu
 rw [List.getElem?_map, List.getElem?_eq_getElem hj] at hu
 exact hu
theorem grow_C (n : Nat) (hn : n ≤ 200000) (w : World) :
  Calls Tryz.prog 163 #[.slice none 0 0, .int .i64 n] w fun e w' => (∃ v', e = .returned v' ∧ w'.ownsRow w.heap.size 179 4 v' 0 []) ∧ Below w.heap.size w w' := by
 obtain ⟨i0, hi, hz0, hz1, hz2⟩ := info_parts infoC
 by_cases h0 : n = 0
 ·subst h0
  go_enter Tryz.func163, Tryz.ntmps163
  go_wp2_with fail
  go_ret
  exact ⟨⟨_, rfl, World.ownsRow_nil _ _ _ _⟩, Below.refl _ _⟩
 ·have hn0 : (0 : Int) < (n : Int) := by omega
  have hr := fun ty => Lib.run_append_nil_zeros (P := Tryz.prog) w 100 3 ty 179 i0 _ .i64 .i64 Tryz.underlying100 Tryz.underlying3 hi hz0 n (by omega) (by omega) (by omega) (by rw [hz2]; omega)
  have hG := grownCap_ge w n 0 179
  have hGm := grownCap_le_maxLen w n 0 179 (by unfold maxLen; omega)
  generalize grownCap w n 0 179 = G at *
  have hzl : (Builtin.zeroCells (.agg #[.string ByteArray.empty, .int .i64 0, .int .u64 0, .int .u32 0] : Value).cells n ++ Builtin.zeroCells (.agg #[.string ByteArray.empty, .int .i64 0, .int .u64 0, .int .u32 0] : Value).cells (G - n)).size = G * 4 := by
   rw [Array.size_append, zeroCells_len, zeroCells_len]
   show n * 4 + (G - n) * 4 = _
   omega
  generalize hZ : Builtin.zeroCells (.agg #[.string ByteArray.empty, .int .i64 0, .int .u64 0, .int .u32 0] : Value).cells n ++ Builtin.zeroCells (.agg #[.string ByteArray.empty, .int .i64 0, .int .u64 0, .int .u32 0] : Value).cells (G - n) = Z at *
  have hown := World.ownsRow_made (e := 179) (size := 4) (base := w.heap.size) w.drew Z G (Nat.le_refl _) hGm hzl
  have hown' := Lib.hid hown
  unfold maxLen at hGm
  clear hZ hzl hown
  go_enter Tryz.func163, Tryz.ntmps163
  go_wp2_with (at_builtin; refine Lib.wpList_append_run _ rfl _ _ _ _ rfl _ _ rfl rfl _ _ (hr _) ?_)
  go_ret
  exact ⟨⟨_, rfl, hown'.out⟩, (below_drew' (Below.refl _ _)).alloc (Nat.le_refl _) _⟩
theorem src_C {w : World} {ao : Option Addr} {l : List Chd} (hs : ChdAt w ao l) : ∀ ad, ao = some ad → ∀ j u, (cellsC l)[j]? = some u → w.cell? (ad.add j) = some u := by
 intro ad e j u hu
 have hj := (List.getElem?_eq_some_iff.1 hu).1
 rw [cellsC_len] at hj
 obtain ⟨b, off, e', hb, hc⟩ := hs.at (by omega)
 obtain rfl : ad = ⟨b, off, none⟩ := by rw [e] at e'; simpa using e'
 rw [show (⟨b, off, none⟩ : Addr).add j = ⟨b, off + j, none⟩ by simp [Addr.add]]
 exact SlAt.cellsC hc j u hu
theorem concat_C (cb : Nat) (a1 a2 a3 : Option Addr) (c1 c2 c3 : Nat) (l1 l2 l3 : List Chd) (w : World) (hcb : cb < w.heap.size) (h1 : w.cell? ⟨cb, 0, none⟩ = some (.slice a1 l1.length c1)) (h2 : w.cell? ⟨cb, 1, none⟩ = some (.slice a2 l2.length c2)) (h3 : w.cell? ⟨cb, 2, none⟩ = some (.slice a3 l3.length c3))
  (s1 : ChdAt w a1 l1) (s2 : ChdAt w a2 l2) (s3 : ChdAt w a3 l3) (n1 : a1 = none → l1.length = 0 ∧ c1 = 0) (n2 : a2 = none → l2.length = 0 ∧ c2 = 0) (n3 : a3 = none → l3.length = 0 ∧ c3 = 0) (hl1 : l1.length ≤ 20000) (hl2 : l2.length ≤ 20000) (hl3 : l3.length ≤ 20000) :
  Calls Tryz.prog 132 #[.slice (some ⟨cb, 0, none⟩) 3 3] w fun e w' => (∃ v', e = .returned v' ∧ w'.ownsRow w.heap.size 179 4 v' (l1 ++ (l2 ++ l3)).length (cellsC (l1 ++ (l2 ++ l3)))) ∧ Below w.heap.size w w' := by
 obtain ⟨i0, hi, hz0, hz1, hz2⟩ := info_parts infoC
 have hN1 := Lib.hid n1
 have hN2 := Lib.hid n2
 have hN3 := Lib.hid n3
 clear n1 n2 n3
 go_enter Tryz.func132, Tryz.ntmps132
 go_wp2_with fail
 go_loop [3, 11] (fun s i => (i = .int .i64 (0 : Nat) ∧ s = .int .i64 (0 : Nat)) ∨ (i = .int .i64 (1 : Nat) ∧ s = .int .i64 l1.length) ∨ (i = .int .i64 (2 : Nat) ∧ s = .int .i64 (l1.length + l2.length : Nat)) ∨ (i = .int .i64 (3 : Nat) ∧ s = .int .i64 (l1.length + l2.length + l3.length : Nat))) (fun _ i => 3 - (intOf i).toNat)
 case atStart => exact Or.inl ⟨rfl, rfl⟩
 case round =>
  rcases hrel with ⟨rfl, rfl⟩ | ⟨rfl, rfl⟩ | ⟨rfl, rfl⟩ | ⟨rfl, rfl⟩
  ·have hp : ¬ (l1.length : Int) < 0 := by omega
   go_wp2_with fail
   go_round
   case rel => exact Or.inr (Or.inl ⟨by go_num, by go_num⟩)
   case measure => first | (simp [intOf]; done) | (simp [intOf]; omega)
  ·have hp : ¬ (l1.length : Int) + (l2.length : Int) < 0 := by omega
   go_wp2_with fail
   go_round
   case rel => exact Or.inr (Or.inr (Or.inl ⟨by go_num, by go_num⟩))
   case measure => first | (simp [intOf]; done) | (simp [intOf]; omega)
  ·have hp : ¬ (l1.length : Int) + (l2.length : Int) + (l3.length : Int) < 0 := by omega
   go_wp2_with fail
   go_round
   case rel => exact Or.inr (Or.inr (Or.inr ⟨by go_num, by go_num⟩))
   case measure => first | (simp [intOf]; done) | (simp [intOf]; omega)
  ·go_wp2_with fail
   refine (grow_C (l1.length + l2.length + l3.length) (by omega) w).mono ?_
   rintro e w1 ⟨⟨v1, rfl, hown1⟩, hB1⟩
   go_wp2_with fail
   go_loopw [6, 27] (fun v i wr => ((i = .int .i64 (0 : Nat) ∧ wr.ownsRow w.heap.size 179 4 v 0 []) ∨ (i = .int .i64 (1 : Nat) ∧ wr.ownsRow w.heap.size 179 4 v l1.length (cellsC l1)) ∨ (i = .int .i64 (2 : Nat) ∧ wr.ownsRow w.heap.size 179 4 v (l1.length + l2.length) (cellsC (l1 ++ l2))) ∨ (i = .int .i64 (3 : Nat) ∧ wr.ownsRow w.heap.size 179 4 v (l1.length + l2.length + l3.length) (cellsC (l1 ++ l2 ++ l3)))) ∧ Below w.heap.size w wr) (fun _ i _ => 3 - (intOf i).toNat)
   case atStart => exact ⟨Or.inl ⟨rfl, hown1⟩, hB1⟩
   case round =>
    obtain ⟨hrel, hB⟩ := hrel
    have k1 := (hB.cell (p := ⟨cb, 0, none⟩) hcb).trans h1
    have k2 := (hB.cell (p := ⟨cb, 1, none⟩) hcb).trans h2
    have k3 := (hB.cell (p := ⟨cb, 2, none⟩) hcb).trans h3
    rcases hrel with ⟨rfl, hown⟩ | ⟨rfl, hown⟩ | ⟨rfl, hown⟩ | ⟨rfl, hown⟩
    ·go_wp2_with (at_builtin; refine wpList_append_src _ rfl _ _ 100 rfl w.heap.size 179 i0 (.agg #[.string ByteArray.empty, .int .i64 0, .int .u64 0, .int .u32 0]) 4 40 Tryz.underlying100 hi hz0 hz1 hz2 rfl (by decide) _ 0 _ rfl hown a1 l1.length c1 (cellsC l1) rfl (cellsC_len _) hN1.out (src_C (s1.kept hB (Nat.le_refl _))) (cellsC_oneCell _) (by unfold maxLen; omega) (by omega) hB.size ?_; intro v' w2 hown' hgrow hat)
     go_roundw
     case rel => exact ⟨Or.inr (Or.inl ⟨by go_num, by rw [Nat.zero_add, List.nil_append] at hown'; exact hown'⟩), below_grown hB hgrow (fun k e => (hown.lt k e).1) hB.size⟩
     case measure => first | (simp [intOf]; done) | (simp [intOf]; omega)
    ·go_wp2_with (at_builtin; refine wpList_append_src _ rfl _ _ 100 rfl w.heap.size 179 i0 (.agg #[.string ByteArray.empty, .int .i64 0, .int .u64 0, .int .u32 0]) 4 40 Tryz.underlying100 hi hz0 hz1 hz2 rfl (by decide) _ l1.length _ rfl hown a2 l2.length c2 (cellsC l2) rfl (cellsC_len _) hN2.out (src_C (s2.kept hB (Nat.le_refl _))) (cellsC_oneCell _) (by unfold maxLen; omega) (by omega) hB.size ?_; intro v' w2 hown' hgrow hat)
     go_roundw
     case rel => exact ⟨Or.inr (Or.inr (Or.inl ⟨by go_num, by rw [cellsC_append]; exact hown'⟩)), below_grown hB hgrow (fun k e => (hown.lt k e).1) hB.size⟩
     case measure => first | (simp [intOf]; done) | (simp [intOf]; omega)
    ·go_wp2_with (at_builtin; refine wpList_append_src _ rfl _ _ 100 rfl w.heap.size 179 i0 (.agg #[.string ByteArray.empty, .int .i64 0, .int .u64 0, .int .u32 0]) 4 40 Tryz.underlying100 hi hz0 hz1 hz2 rfl (by decide) _ (l1.length + l2.length) _ rfl hown a3 l3.length c3 (cellsC l3) rfl (cellsC_len _) hN3.out (src_C (s3.kept hB (Nat.le_refl _))) (cellsC_oneCell _) (by unfold maxLen; omega) (by omega) hB.size ?_; intro v' w2 hown' hgrow hat)
     go_roundw
     case rel => exact ⟨Or.inr (Or.inr (Or.inr ⟨by go_num, by rw [cellsC_append (l1 ++ l2)]; exact hown'⟩)), below_grown hB hgrow (fun k e => (hown.lt k e).1) hB.size⟩
     case measure => first | (simp [intOf]; done) | (simp [intOf]; omega)
    ·go_wp2_with fail
     go_ret
     refine ⟨⟨_, rfl, ?_⟩, hB⟩
     rw [← List.append_assoc, List.length_append, List.length_append]
     exact hown
theorem grow_Vx (n : Nat) (hn : n ≤ 200000) (w : World) :
  Calls Tryz.prog 164 #[.slice none 0 0, .int .i64 n] w fun e w' => (∃ v', e = .returned v' ∧ w'.ownsRow w.heap.size 97 1 v' 0 []) ∧ Below w.heap.size w w' := by
 obtain ⟨i0, hi, hz0, hz1, hz2⟩ := info_parts infoVx
 by_cases h0 : n = 0
 ·subst h0
  go_enter Tryz.func164, Tryz.ntmps164
  go_wp2_with fail
  go_ret
  exact ⟨⟨_, rfl, World.ownsRow_nil _ _ _ _⟩, Below.refl _ _⟩
 ·have hn0 : (0 : Int) < (n : Int) := by omega
  have hr := fun ty => Lib.run_append_nil_zeros (P := Tryz.prog) w 106 3 ty 97 i0 _ .i64 .i64 Tryz.underlying106 Tryz.underlying3 hi hz0 n (by omega) (by omega) (by omega) (by rw [hz2]; omega)
  have hG := grownCap_ge w n 0 97
  have hGm := grownCap_le_maxLen w n 0 97 (by unfold maxLen; omega)
  generalize grownCap w n 0 97 = G at *
  have hzl : (Builtin.zeroCells (.pointer none : Value).cells n ++ Builtin.zeroCells (.pointer none : Value).cells (G - n)).size = G * 1 := by
   rw [Array.size_append, zeroCells_len, zeroCells_len]
   show n * 1 + (G - n) * 1 = _
   omega
  generalize hZ : Builtin.zeroCells (.pointer none : Value).cells n ++ Builtin.zeroCells (.pointer none : Value).cells (G - n) = Z at *
  have hown := World.ownsRow_made (e := 97) (size := 1) (base := w.heap.size) w.drew Z G (Nat.le_refl _) hGm hzl
  have hown' := Lib.hid hown
  unfold maxLen at hGm
  clear hZ hzl hown
  go_enter Tryz.func164, Tryz.ntmps164
  go_wp2_with (at_builtin; refine Lib.wpList_append_run _ rfl _ _ _ _ rfl _ _ rfl rfl _ _ (hr _) ?_)
  go_ret
  exact ⟨⟨_, rfl, hown'.out⟩, (below_drew' (Below.refl _ _)).alloc (Nat.le_refl _) _⟩
theorem src_Vx {w : World} {ao : Option Addr} {l : List Nat} (hs : PtrAt w ao l) : ∀ ad, ao = some ad → ∀ j u, (cellsVx l)[j]? = some u → w.cell? (ad.add j) = some u := by
 intro ad e j u hu
 have hj := (List.getElem?_eq_some_iff.1 hu).1
 rw [cellsVx_len] at hj
 obtain ⟨b, off, e', hb, hc⟩ := hs.at (by omega)
 obtain rfl : ad = ⟨b, off, none⟩ := by rw [e] at e'; simpa using e'
 rw [show (⟨b, off, none⟩ : Addr).add j = ⟨b, off + j, none⟩ by simp [Addr.add]]
 exact SlAt.cellsVx hc j u hu
theorem concat_Vx (cb : Nat) (a1 a2 a3 : Option Addr) (c1 c2 c3 : Nat) (l1 l2 l3 : List Nat) (w : World) (hcb : cb < w.heap.size) (h1 : w.cell? ⟨cb, 0, none⟩ = some (.slice a1 l1.length c1)) (h2 : w.cell? ⟨cb, 1, none⟩ = some (.slice a2 l2.length c2)) (h3 : w.cell? ⟨cb, 2, none⟩ = some (.slice a3 l3.length c3))
  (s1 : PtrAt w a1 l1) (s2 : PtrAt w a2 l2) (s3 : PtrAt w a3 l3) (n1 : a1 = none → l1.length = 0 ∧ c1 = 0) (n2 : a2 = none → l2.length = 0 ∧ c2 = 0) (n3 : a3 = none → l3.length = 0 ∧ c3 = 0) (hl1 : l1.length ≤ 20000) (hl2 : l2.length ≤ 20000) (hl3 : l3.length ≤ 20000) :
  Calls Tryz.prog 133 #[.slice (some ⟨cb, 0, none⟩) 3 3] w fun e w' => (∃ v', e = .returned v' ∧ w'.ownsRow w.heap.size 97 1 v' (l1 ++ (l2 ++ l3)).length (cellsVx (l1 ++ (l2 ++ l3)))) ∧ Below w.heap.size w w' := by
 obtain ⟨i0, hi, hz0, hz1, hz2⟩ := info_parts infoVx
 have hN1 := Lib.hid n1
 have hN2 := Lib.hid n2
 have hN3 := Lib.hid n3
 clear n1 n2 n3
 go_enter Tryz.func133, Tryz.ntmps133
 go_wp2_with fail
 go_loop [3, 11] (fun s i => (i = .int .i64 (0 : Nat) ∧ s = .int .i64 (0 : Nat)) ∨ (i = .int .i64 (1 : Nat) ∧ s = .int .i64 l1.length) ∨ (i = .int .i64 (2 : Nat) ∧ s = .int .i64 (l1.length + l2.length : Nat)) ∨ (i = .int .i64 (3 : Nat) ∧ s = .int .i64 (l1.length + l2.length + l3.length : Nat))) (fun _ i => 3 - (intOf i).toNat)
 case atStart => exact Or.inl ⟨rfl, rfl⟩
 case round =>
  rcases hrel with ⟨rfl, rfl⟩ | ⟨rfl, rfl⟩ | ⟨rfl, rfl⟩ | ⟨rfl, rfl⟩
  ·have hp : ¬ (l1.length : Int) < 0 := by omega
   go_wp2_with fail
   go_round
   case rel => exact Or.inr (Or.inl ⟨by go_num, by go_num⟩)
   case measure => first | (simp [intOf]; done) | (simp [intOf]; omega)
  ·have hp : ¬ (l1.length : Int) + (l2.length : Int) < 0 := by omega
   go_wp2_with fail
   go_round
   case rel => exact Or.inr (Or.inr (Or.inl ⟨by go_num, by go_num⟩))
   case measure => first | (simp [intOf]; done) | (simp [intOf]; omega)
  ·have hp : ¬ (l1.length : Int) + (l2.length : Int) + (l3.length : Int) < 0 := by omega
   go_wp2_with fail
   go_round
   case rel => exact Or.inr (Or.inr (Or.inr ⟨by go_num, by go_num⟩))
   case measure => first | (simp [intOf]; done) | (simp [intOf]; omega)
  ·go_wp2_with fail
   refine (grow_Vx (l1.length + l2.length + l3.length) (by omega) w).mono ?_
   rintro e w1 ⟨⟨v1, rfl, hown1⟩, hB1⟩
   go_wp2_with fail
   go_loopw [6, 27] (fun v i wr => ((i = .int .i64 (0 : Nat) ∧ wr.ownsRow w.heap.size 97 1 v 0 []) ∨ (i = .int .i64 (1 : Nat) ∧ wr.ownsRow w.heap.size 97 1 v l1.length (cellsVx l1)) ∨ (i = .int .i64 (2 : Nat) ∧ wr.ownsRow w.heap.size 97 1 v (l1.length + l2.length) (cellsVx (l1 ++ l2))) ∨ (i = .int .i64 (3 : Nat) ∧ wr.ownsRow w.heap.size 97 1 v (l1.length + l2.length + l3.length) (cellsVx (l1 ++ l2 ++ l3)))) ∧ Below w.heap.size w wr) (fun _ i _ => 3 - (intOf i).toNat)
   case atStart => exact ⟨Or.inl ⟨rfl, hown1⟩, hB1⟩
   case round =>
    obtain ⟨hrel, hB⟩ := hrel
    have k1 := (hB.cell (p := ⟨cb, 0, none⟩) hcb).trans h1
    have k2 := (hB.cell (p := ⟨cb, 1, none⟩) hcb).trans h2
    have k3 := (hB.cell (p := ⟨cb, 2, none⟩) hcb).trans h3
    rcases hrel with ⟨rfl, hown⟩ | ⟨rfl, hown⟩ | ⟨rfl, hown⟩ | ⟨rfl, hown⟩
    ·go_wp2_with (at_builtin; refine wpList_append_src _ rfl _ _ 106 rfl w.heap.size 97 i0 (.pointer none) 1 8 Tryz.underlying106 hi hz0 hz1 hz2 rfl (by decide) _ 0 _ rfl hown a1 l1.length c1 (cellsVx l1) rfl (cellsVx_len _) hN1.out (src_Vx (s1.kept hB (Nat.le_refl _))) (cellsVx_oneCell _) (by unfold maxLen; omega) (by omega) hB.size ?_; intro v' w2 hown' hgrow hat)
     go_roundw
     case rel => exact ⟨Or.inr (Or.inl ⟨by go_num, by rw [Nat.zero_add, List.nil_append] at hown'; exact hown'⟩), below_grown hB hgrow (fun k e => (hown.lt k e).1) hB.size⟩
     case measure => first | (simp [intOf]; done) | (simp [intOf]; omega)
    ·go_wp2_with (at_builtin; refine wpList_append_src _ rfl _ _ 106 rfl w.heap.size 97 i0 (.pointer none) 1 8 Tryz.underlying106 hi hz0 hz1 hz2 rfl (by decide) _ l1.length _ rfl hown a2 l2.length c2 (cellsVx l2) rfl (cellsVx_len _) hN2.out (src_Vx (s2.kept hB (Nat.le_refl _))) (cellsVx_oneCell _) (by unfold maxLen; omega) (by omega) hB.size ?_; intro v' w2 hown' hgrow hat)
     go_roundw
     case rel => exact ⟨Or.inr (Or.inr (Or.inl ⟨by go_num, by rw [cellsVx_append]; exact hown'⟩)), below_grown hB hgrow (fun k e => (hown.lt k e).1) hB.size⟩
     case measure => first | (simp [intOf]; done) | (simp [intOf]; omega)
    ·go_wp2_with (at_builtin; refine wpList_append_src _ rfl _ _ 106 rfl w.heap.size 97 i0 (.pointer none) 1 8 Tryz.underlying106 hi hz0 hz1 hz2 rfl (by decide) _ (l1.length + l2.length) _ rfl hown a3 l3.length c3 (cellsVx l3) rfl (cellsVx_len _) hN3.out (src_Vx (s3.kept hB (Nat.le_refl _))) (cellsVx_oneCell _) (by unfold maxLen; omega) (by omega) hB.size ?_; intro v' w2 hown' hgrow hat)
     go_roundw
     case rel => exact ⟨Or.inr (Or.inr (Or.inr ⟨by go_num, by rw [cellsVx_append (l1 ++ l2)]; exact hown'⟩)), below_grown hB hgrow (fun k e => (hown.lt k e).1) hB.size⟩
     case measure => first | (simp [intOf]; done) | (simp [intOf]; omega)
    ·go_wp2_with fail
     go_ret
     refine ⟨⟨_, rfl, ?_⟩, hB⟩
     rw [← List.append_assoc, List.length_append, List.length_append]
     exact hown
structure SlV (w : World) (v : Value) (l : List Nat) : Prop where
 form : ∃ ao c, v = .slice ao l.length c ∧ PtrAt w ao l ∧ l.length ≤ c ∧ (c : Int) ≤ 9223372036854775807 ∧ (ao = none → c = 0)
theorem SlV.kept {w w' : World} {v : Value} {l : List Nat} {B : Nat} (h : SlV w v l) (hb : Below B w w') (hB : w.heap.size ≤ B) : SlV w' v l := by
 obtain ⟨ao, c, rfl, h1, h2⟩ := h
 exact ⟨ao, c, rfl, h1.kept hb hB, h2⟩
theorem SlV.of_own {w : World} {B n : Nat} {v : Value} {l : List Nat} (h : w.ownsRow B 97 1 v n (cellsVx l)) : l.length = n ∧ SlV w v l := by
 have hn : l.length = n := by have := h.1; rw [cellsVx_len] at this; omega
 refine ⟨hn, ?_⟩
 subst hn
 rcases ownsRow_open h with ⟨rfl, h0, -⟩ | ⟨g, cap, cur, rfl, -, hr, h3, h4, h5, h6⟩
 ·obtain rfl := List.eq_nil_of_length_eq_zero h0
  exact ⟨none, 0, rfl, Or.inl rfl, Nat.le_refl _, by omega, fun _ => rfl⟩
 ·refine ⟨_, cap, rfl, Or.inr ⟨g, 0, rfl, hr.lt, fun i hi j x hx => ?_⟩, h3, by unfold maxLen at h4; omega, fun e => by simp at e⟩
  have hj : j < 1 := (List.getElem?_eq_some_iff.1 hx).1
  obtain rfl : j = 0 := by omega
  have e : (cellsVx l)[i]? = some x := by
   unfold cellsVx
   rw [List.getElem?_map, List.getElem?_eq_getElem hi]
   exact hx
  rw [hr.cell, Nat.zero_add, Nat.mul_one, Nat.add_zero, ← e, ← h6, List.getElem?_take, if_pos (by omega)]
theorem cloneVx (v : Value) (l : List Nat) (w : World) (h : SlV w v l) (hl : l.length ≤ 1000000) :
  Calls Tryz.prog 99 #[v] w fun e w' => (∃ v', e = .returned v' ∧ w'.ownsRow w.heap.size 97 1 v' l.length (cellsVx l)) ∧ Below w.heap.size w w' := by
 obtain ⟨ao, c, rfl, hs, hc1, hc2, hn⟩ := h
 have hnil := fun (w : World) a n c n' c' => Lib.run_eql_slice_nil (P := Tryz.prog) w 106 97 a n c n' c' Tryz.underlying106
 obtain ⟨i0, hi, hz0, hz1, hz2⟩ := info_parts infoVx
 cases ao with
 | none =>
  obtain rfl := hn rfl
  obtain rfl : l = [] := List.eq_nil_of_length_eq_zero (by omega)
  go_enter Tryz.func99, Tryz.ntmps99
  go_wp2_with fail
  go_ret
  exact ⟨⟨_, rfl, World.ownsRow_nil _ _ _ _⟩, Below.refl _ _⟩
 | some a =>
  have hown := World.ownsRow_made (e := 97) (size := 1) (base := w.heap.size) w #[] 0 (Nat.le_refl _) (by unfold maxLen; omega) rfl
  have hnews : ∀ j u, (cellsVx l)[j]? = some u → (w.alloc (.cells #[] 97)).cell? (a.add j) = some u := by
   intro j u hu
   exact cell_past _ (src_Vx hs a rfl j u hu)
  have hcl := cellsVx_len l
  clear hs
  go_enter Tryz.func99, Tryz.ntmps99
  go_wp2_with (at_builtin; refine wpList_append_own_at _ rfl _ _ 106 rfl w.heap.size 97 i0 (.pointer none) 1 8 Tryz.underlying106 hi hz0 hz1 hz2 rfl (by decide) _ 0 [] rfl hown a l.length c (cellsVx l) rfl hcl hnews (cellsVx_oneCell l) (by unfold maxLen; omega) (by omega) (by simp) ?_; intro v' w1 hown' hgrow hnil' hat)
  go_ret
  rw [Nat.zero_add, List.nil_append] at hown'
  exact ⟨⟨_, rfl, hown'⟩, below_grown_new hgrow fun k e => Nat.le_of_eq (Option.some.inj e)⟩
theorem elemC : Tryz.prog.elem 100 = 179 := by kernel_rfl
theorem underC : Tryz.prog.underlying 100 = some (.slice (Tryz.prog.elem 100)) := by rw [elemC]; exact Tryz.underlying100
theorem sizeElC (w : World) : (sizeOf (Tryz.prog.elem 100)).run Tryz.prog w = .ok 4 w := by kernel_rfl
theorem lowC (ao : Option Addr) (n c i : Nat) (l : List Chd) (w : World) (hs : ChdAt w ao l) (hl : l.length = n) (hnc : n ≤ c) (hc : (c : Int) ≤ 9223372036854775807) (hin : i ≤ n) (hno : ao = none → c = 0) :
  (∀ w, (Instr.slice 100 (.slice ao n c) none (some (.int .i64 (i : Int))) none).run Tryz.prog w = .ok (.slice ao i c) w) ∧ SlC w (.slice ao i c) (l.take i) := by
 refine ⟨fun w => ?_, ?_⟩
 ·rw [run_slice_h w 100 ao n c underC .i64 i (by omega) (by omega)]
  rw [sizeElC]
  have e : ao.map (·.add 0) = ao := by cases ao <;> simp [Addr.add]
  simp [Result.andThen, sliced, e]
 ·have hlen : (l.take i).length = i := by rw [List.length_take]; omega
  exact ⟨ao, c, by rw [hlen], hs.cut i, by rw [hlen]; omega, hc, hno⟩
theorem highC (ao : Option Addr) (n c k : Nat) (l : List Chd) (w : World) (hs : ChdAt w ao l) (hl : l.length = n) (hnc : n ≤ c) (hc : (c : Int) ≤ 9223372036854775807) (hkn : k ≤ n) (hno : ao = none → c = 0) :
  ∃ A, (∀ w, (Instr.slice 100 (.slice ao n c) (some (.int .i64 (k : Int))) none none).run Tryz.prog w = .ok (.slice A (n - k) (c - k)) w) ∧ SlC w (.slice A (n - k) (c - k)) (l.drop k) := by
 refine ⟨if c = k then ao else ao.map (·.add (k * 4)), fun w => ?_, ?_⟩
 ·rw [run_slice_l w 100 ao n c underC .i64 k (by omega) (by omega)]
  rw [sizeElC]; rfl
 ·have hlen : (l.drop k).length = n - k := by rw [List.length_drop]; omega
  refine ⟨_, c - k, by rw [hlen], ?_, by rw [hlen]; omega, by omega, fun e => ?_⟩
  ·by_cases h0 : k < n
   ·rw [if_neg (by omega)]
    obtain ⟨b, off, rfl, hb, hcc⟩ := hs.at (by omega)
    rw [show (some (⟨b, off, none⟩ : Addr)).map (·.add (k * 4)) = some ⟨b, off + k * 4, none⟩ by simp [Addr.add]]
    exact hs.drop k b off rfl
   ·exact Or.inl (List.eq_nil_of_length_eq_zero (by omega))
  ·by_cases h0 : c = k
   ·omega
   ·rw [if_neg h0] at e
    cases ao with
    | none => have := hno rfl; omega
    | some a => simp at e
theorem concatS_C (cb : Nat) (a1 a2 a3 : Option Addr) (n1 n2 n3 c1 c2 c3 : Nat) (l1 l2 l3 : List Chd) (w : World) (hcb : cb < w.heap.size) (h1 : w.cell? ⟨cb, 0, none⟩ = some (.slice a1 n1 c1)) (h2 : w.cell? ⟨cb, 1, none⟩ = some (.slice a2 n2 c2)) (h3 : w.cell? ⟨cb, 2, none⟩ = some (.slice a3 n3 c3))
  (s1 : SlC w (.slice a1 n1 c1) l1) (s2 : SlC w (.slice a2 n2 c2) l2) (s3 : SlC w (.slice a3 n3 c3) l3) (hl1 : l1.length ≤ 20000) (hl2 : l2.length ≤ 20000) (hl3 : l3.length ≤ 20000) :
  Calls Tryz.prog 132 #[.slice (some ⟨cb, 0, none⟩) 3 3] w fun e w' => (∃ v', e = .returned v' ∧ w'.ownsRow w.heap.size 179 4 v' (l1 ++ (l2 ++ l3)).length (cellsC (l1 ++ (l2 ++ l3)))) ∧ Below w.heap.size w w' := by
 obtain ⟨b1, d1, e1, t1, u1, -, m1⟩ := s1
 obtain ⟨b2, d2, e2, t2, u2, -, m2⟩ := s2
 obtain ⟨b3, d3, e3, t3, u3, -, m3⟩ := s3
 simp only [Value.slice.injEq] at e1 e2 e3
 obtain ⟨rfl, rfl, rfl⟩ := e1
 obtain ⟨rfl, rfl, rfl⟩ := e2
 obtain ⟨rfl, rfl, rfl⟩ := e3
 exact concat_C cb a1 a2 a3 c1 c2 c3 l1 l2 l3 w hcb h1 h2 h3 t1 t2 t3 (fun e => by have := m1 e; omega) (fun e => by have := m2 e; omega) (fun e => by have := m3 e; omega) hl1 hl2 hl3
theorem elemVx : Tryz.prog.elem 106 = 97 := by kernel_rfl
theorem underVx : Tryz.prog.underlying 106 = some (.slice (Tryz.prog.elem 106)) := by rw [elemVx]; exact Tryz.underlying106
theorem sizeElVx (w : World) : (sizeOf (Tryz.prog.elem 106)).run Tryz.prog w = .ok 1 w := by kernel_rfl
theorem lowVx (ao : Option Addr) (n c i : Nat) (l : List Nat) (w : World) (hs : PtrAt w ao l) (hl : l.length = n) (hnc : n ≤ c) (hc : (c : Int) ≤ 9223372036854775807) (hin : i ≤ n) (hno : ao = none → c = 0) :
  (∀ w, (Instr.slice 106 (.slice ao n c) none (some (.int .i64 (i : Int))) none).run Tryz.prog w = .ok (.slice ao i c) w) ∧ SlV w (.slice ao i c) (l.take i) := by
 refine ⟨fun w => ?_, ?_⟩
 ·rw [run_slice_h w 106 ao n c underVx .i64 i (by omega) (by omega)]
  rw [sizeElVx]
  have e : ao.map (·.add 0) = ao := by cases ao <;> simp [Addr.add]
  simp [Result.andThen, sliced, e]
 ·have hlen : (l.take i).length = i := by rw [List.length_take]; omega
  exact ⟨ao, c, by rw [hlen], hs.cut i, by rw [hlen]; omega, hc, hno⟩
theorem highVx (ao : Option Addr) (n c k : Nat) (l : List Nat) (w : World) (hs : PtrAt w ao l) (hl : l.length = n) (hnc : n ≤ c) (hc : (c : Int) ≤ 9223372036854775807) (hkn : k ≤ n) (hno : ao = none → c = 0) :
  ∃ A, (∀ w, (Instr.slice 106 (.slice ao n c) (some (.int .i64 (k : Int))) none none).run Tryz.prog w = .ok (.slice A (n - k) (c - k)) w) ∧ SlV w (.slice A (n - k) (c - k)) (l.drop k) := by
 refine ⟨if c = k then ao else ao.map (·.add (k * 1)), fun w => ?_, ?_⟩
 ·rw [run_slice_l w 106 ao n c underVx .i64 k (by omega) (by omega)]
  rw [sizeElVx]; rfl
 ·have hlen : (l.drop k).length = n - k := by rw [List.length_drop]; omega
  refine ⟨_, c - k, by rw [hlen], ?_, by rw [hlen]; omega, by omega, fun e => ?_⟩
  ·by_cases h0 : k < n
   ·rw [if_neg (by omega)]
    obtain ⟨b, off, rfl, hb, hcc⟩ := hs.at (by omega)
    rw [show (some (⟨b, off, none⟩ : Addr)).map (·.add (k * 1)) = some ⟨b, off + k * 1, none⟩ by simp [Addr.add]]
    exact hs.drop k b off rfl
   ·exact Or.inl (List.eq_nil_of_length_eq_zero (by omega))
  ·by_cases h0 : c = k
   ·omega
   ·rw [if_neg h0] at e
    cases ao with
    | none => have := hno rfl; omega
    | some a => simp at e
theorem concatS_Vx (cb : Nat) (a1 a2 a3 : Option Addr) (n1 n2 n3 c1 c2 c3 : Nat) (l1 l2 l3 : List Nat) (w : World) (hcb : cb < w.heap.size) (h1 : w.cell? ⟨cb, 0, none⟩ = some (.slice a1 n1 c1)) (h2 : w.cell? ⟨cb, 1, none⟩ = some (.slice a2 n2 c2)) (h3 : w.cell? ⟨cb, 2, none⟩ = some (.slice a3 n3 c3))
  (s1 : SlV w (.slice a1 n1 c1) l1) (s2 : SlV w (.slice a2 n2 c2) l2) (s3 : SlV w (.slice a3 n3 c3) l3) (hl1 : l1.length ≤ 20000) (hl2 : l2.length ≤ 20000) (hl3 : l3.length ≤ 20000) :
  Calls Tryz.prog 133 #[.slice (some ⟨cb, 0, none⟩) 3 3] w fun e w' => (∃ v', e = .returned v' ∧ w'.ownsRow w.heap.size 97 1 v' (l1 ++ (l2 ++ l3)).length (cellsVx (l1 ++ (l2 ++ l3)))) ∧ Below w.heap.size w w' := by
 obtain ⟨b1, d1, e1, t1, u1, -, m1⟩ := s1
 obtain ⟨b2, d2, e2, t2, u2, -, m2⟩ := s2
 obtain ⟨b3, d3, e3, t3, u3, -, m3⟩ := s3
 simp only [Value.slice.injEq] at e1 e2 e3
 obtain ⟨rfl, rfl, rfl⟩ := e1
 obtain ⟨rfl, rfl, rfl⟩ := e2
 obtain ⟨rfl, rfl, rfl⟩ := e3
 exact concat_Vx cb a1 a2 a3 c1 c2 c3 l1 l2 l3 w hcb h1 h2 h3 t1 t2 t3 (fun e => by have := m1 e; omega) (fun e => by have := m2 e; omega) (fun e => by have := m3 e; omega) hl1 hl2 hl3
open Go.RowKit
attribute [local go_sem ↓] Go.wp_at_zero Go.wp_at_succ
abbrev StrAt (w : World) (ao : Option Addr) (l : List (List UInt8)) : Prop := SlAt (fun s : List UInt8 => [Value.string (S s)]) 1 w ao l
theorem StrAt.cell {w : World} {ao : Option Addr} {l : List (List UInt8)} (h : StrAt w ao l) (i : Nat) (hi : i < l.length) : ∃ b off, ao = some ⟨b, off, none⟩ ∧ b < w.heap.size ∧ w.cell? ⟨b, off + i, none⟩ = some (.string (S l[i])) := by
 obtain ⟨b, off, e, hb, hc⟩ := h.at (by omega)
 have := hc i hi 0 _ rfl
 rw [Nat.mul_one, Nat.add_zero] at this
 exact ⟨b, off, e, hb, this⟩
theorem new_oneCell (s : ByteArray) : ∀ u ∈ [Value.string s, .int .i64 0, .int .u64 0, .int .u32 0], u.oneCell' = true := by
 intro u hu
 simp only [List.mem_cons, List.not_mem_nil, or_false] at hu
 rcases hu with rfl | rfl | rfl | rfl <;> rfl
theorem VxAt.noPtr {w : World} {b : Nat} {kn : Bool} {pa : Int} {pg ps : Nat} {ld : Bool} {a1 a2 a3 a4 : Option Addr} {n1 n2 n3 n4 c1 c2 c3 c4 : Nat} (h : VxAt w b kn pa pg ps ld (.slice a1 n1 c1) (.slice a2 n2 c2) (.slice a3 n3 c3) (.slice a4 n4 c4)) (o : Nat) (p : Option Addr) : w.cell? ⟨b, o, none⟩ ≠ some (.pointer p) := fun e => by
 rw [h.row.cell] at e
 have := List.mem_of_getElem? e
 simp [vxCells] at this
theorem SlV.keep {w w' : World} {v : Value} {l : List Nat} {b : Nat} (h : SlV w v l) (hk : Keep (fun x => x = b) w w') (hb : ∀ o p, w.cell? ⟨b, o, none⟩ ≠ some (.pointer p)) : SlV w' v l := by
 obtain ⟨ao, c, rfl, h1, h2⟩ := h
 refine ⟨ao, c, rfl, ?_, h2⟩
 rcases h1 with rfl | ⟨g, off, rfl, hg, hc⟩
 ·exact Or.inl rfl
 ·by_cases hl : l = []
  ·exact Or.inl hl
  ·have hl0 : 0 < l.length := List.length_pos_iff.2 hl
   have hne : ¬ g = b := fun e => hb _ _ (by rw [← e]; exact hc 0 hl0 0 _ rfl)
   refine Or.inr ⟨g, off, rfl, Nat.lt_of_lt_of_le hg hk.size, fun i hi j x hx => ?_⟩
   rw [World.cell?_of_block (hk.block g hg hne)]
   exact hc i hi j x hx
theorem cut_list {α β : Type} (f : α → β) : ∀ (A D : List α) (x : α), ((A ++ x :: D).map f).take A.length = A.map f ∧ ((A ++ x :: D).map f).drop (A.length + 1) = D.map f
 | [], D, x => ⟨rfl, rfl⟩
 | a :: A, D, x => by
  obtain ⟨h1, h2⟩ := cut_list f A D x
  refine ⟨?_, ?_⟩
  ·rw [List.cons_append, List.map_cons, List.length_cons, List.take_succ_cons, h1, List.map_cons]
  ·rw [List.cons_append, List.map_cons, List.length_cons, List.drop_succ_cons, h2]
theorem own_head {w : World} {B g c : Nat} {CS : List Chd} (h : w.ownsRow B 179 4 (.slice (some ⟨g, 0, none⟩) CS.length c) CS.length (cellsC CS)) (h0 : 0 < CS.length) : (w.setCell ⟨g, 0, none⟩ (.string ⟨#[]⟩)).ownsRow B 179 4 (.slice (some ⟨g, 0, none⟩) CS.length c) CS.length (cellsC (headless CS)) := by
 rcases ownsRow_open h with ⟨e, -, -⟩ | ⟨g', cap, cur, e, h1, hr, h3, h4, h5, h6⟩
 ·simp at e
 ·simp only [Value.slice.injEq, Option.some.injEq, Addr.mk.injEq, and_true, true_and] at e
  obtain ⟨rfl, rfl⟩ := e
  refine ownsRow_shut h1 (hr.put 0 _) h3 h4 (by rw [List.length_set]; exact h5) ?_
  rw [List.take_set, h6]
  exact cells_headless CS h0
structure PutAt (w0 : World) (v : Vt) (pa : Int) (pg ps : Nat) (CS : List Chd) (KS : List Nat) (ga : Option Addr) (gc : Nat) (a2 : Option Addr) (x2 : Nat) (a3 : Option Addr) (x3 : Nat) (w : World) : Prop where
 keep : Keep (fun x => x = v.b) w0 w
 vx : VxAt w v.b v.kn.isSome pa pg ps true (.slice none 0 0) (.slice ga CS.length gc) (.slice a2 v.us.length x2) (.slice a3 KS.length x3)
 rowC : w.ownsRow w0.heap.size 179 4 (.slice ga CS.length gc) CS.length (cellsC CS)
 kids : w.ownsRow 0 97 1 (.slice a3 KS.length x3) KS.length (cellsVx KS)
theorem VxAt.noRow {w : World} {b : Nat} {kn : Bool} {pa : Int} {pg ps : Nat} {ld : Bool} {lf cs us ks : Value} (h : VxAt w b kn pa pg ps ld lf cs us ks) {B : Nat} {E : TypeId} {k : Nat} {v : Value} {n : Nat} {xs : List Value} (ho : w.ownsRow B E k v n xs) (hE : E ≠ 108) : v.ownBlock ≠ some b := fun e => by
 obtain ⟨cur, hc⟩ := own_rowIs ho b e
 exact hE (hc.one h.row).1
theorem putT {w : World} {n : Nat} {v : Vt} {A : List (Chd × Vt)} {c : Chd} {t : Vt} {D Q : List (Chd × Vt)} (kv : Value) (la : Option Addr) (lc k : Nat) (hm : Mem w (n + 1) v) (hl : v.ld = true) (e : v.ch = A ++ (c, t) :: D) (hkA : k = A.length) (hkv : SlV w kv (Q.map fun x => x.2.b)) (hlv : StrAt w la (Q.map lw)) (hv2 : v.ch.length ≤ 10000) (hq2 : Q.length ≤ 10000) (hne : A ++ (Q ++ D) ≠ []) (hnew : ∀ x ∈ Q, x.1 = ⟨lw x, 0, 0, 0⟩) :
  Calls Tryz.prog 100 #[.pointer (some ⟨v.b, 0, none⟩), .int .i64 k, kv, .slice la Q.length lc] w fun e w' => e = .returned (.tuple #[]) ∧ Keep (fun x => x = v.b) w w' ∧ MNode w' { v with ch := fixHead (A ++ (Q ++ D)) } := by
 obtain ⟨i0, hi, hz0, hz1, hz2⟩ := info_parts infoC
 obtain ⟨ka, kc, rfl, hka⟩ := hkv
 rw [List.length_map] at hka ⊢
 have HKV := Lib.hid (show SlV w (.slice ka Q.length kc) (Q.map fun x => x.2.b) from ⟨ka, kc, by rw [List.length_map], by rw [List.length_map]; exact hka⟩)
 have HLV := Lib.hid hlv
 have HM := Lib.hid hm
 have HE := Lib.hid (And.intro e (And.intro hkA hne))
 clear hka hlv hm e hkA hne
 go_enter Tryz.func100, Tryz.ntmps100
 go_wp2_with fail
 go_loopw [8, 13] (fun s i wr => ∃ j : Nat, i = .int .i64 j ∧ j ≤ Q.length ∧ wr.ownsRow w.heap.size 179 4 s j (cellsC ((Q.take j).map Prod.fst)) ∧ Below w.heap.size w wr) (fun _ i _ => Q.length - (intOf i).toNat)
 case atStart => exact ⟨0, rfl, Nat.zero_le _, World.ownsRow_nil _ _ _ _, Below.refl _ _⟩
 case round =>
  obtain ⟨j, rfl, hj, hown, hB⟩ := hrel
  have hj0 : (0 : Int) ≤ (j : Int) := Int.natCast_nonneg _
  by_cases hjl : j < Q.length
  ·have hj1 : (j : Int) < (Q.length : Int) := by omega
   obtain ⟨b0, off, rfl, hb0, t0⟩ := StrAt.cell (HLV.out.kept hB (Nat.le_refl _)) j (by rw [List.length_map]; exact hjl)
   rw [List.getElem_map] at t0
   have HQ := Lib.hid (show (Q.take (j + 1)).map Prod.fst = (Q.take j).map Prod.fst ++ [⟨lw Q[j], 0, 0, 0⟩] by rw [List.take_succ_eq_append_getElem hjl, List.map_append, List.map_cons, List.map_nil, hnew _ (List.getElem_mem hjl)])
   generalize lw Q[j] = low at *
   go_wp2_with (at_builtin; refine wpList_append_own_at _ rfl _ _ 100 rfl w.heap.size 179 i0 (.agg #[.string ByteArray.empty, .int .i64 0, .int .u64 0, .int .u32 0]) 4 40 Tryz.underlying100 hi hz0 hz1 hz2 rfl (by decide) _ j _ rfl (hown.alloc _) ⟨_, 0, none⟩ 1 1 [.string (S low), .int .i64 0, .int .u64 0, .int .u32 0] rfl rfl (fun j u hu => cell_four_at _ _ rfl _ _ _ _ _ j u hu) (new_oneCell _) (by unfold maxLen; omega) (by omega) (by have := hB.size; simp; omega) ?_; intro v' w2 hown' hgrow hnil' hat)
   go_roundw
   case rel => exact ⟨j + 1, by go_num, by omega, by rw [HQ.out, cellsC_append, cellsC_one]; exact hown', below_grown (hB.alloc hB.size _) hgrow (fun q e => (hown.lt q e).1) (by have := hB.size; simp; omega)⟩
   case measure => simp [intOf]; omega
  ·obtain rfl : j = Q.length := by omega
   obtain ⟨⟨-, pa, pg, ps, a1, x1, a2, x2, a3, x3, hv, hpt, hnd, hkd⟩, -⟩ := HM.out.node hl
   obtain ⟨w1, hw1⟩ : ∃ w1, w1 = wr := ⟨_, rfl⟩
   subst hw1
   rw [List.take_length] at hown
   obtain ⟨sa, sc, rfl⟩ := own_form hown
   have hSC := (SlC.of_own hown).2
   have hV1 := hv.on hB
   have v6 := hV1.c6
   have f6 := hV1.fz 6
   have hn1 : NodeAt w1 (.agg #[.slice a1 v.ch.length x1, .slice a2 v.us.length x2]) v.cs v.us := hnd.kept hB (Nat.le_refl _)
   obtain ⟨ao, xo, eo, hs1, hs2, hs3, hs4⟩ := hn1.parts.1
   simp only [Value.slice.injEq] at eo
   obtain ⟨rfl, eo2, rfl⟩ := eo
   have hsl1 : v.cs.length = v.ch.length := List.length_map _
   have hkn : k + 1 ≤ v.ch.length := by have h1 := HE.out.1; have h2 := HE.out.2.1; rw [h1, h2]; simp
   obtain ⟨hr1, hp1⟩ := lowC a1 v.ch.length x1 k v.cs w1 hs1 hsl1 (by omega) hs3 (by omega) hs4
   obtain ⟨k1, hk1⟩ : ∃ k1, k1 = k + 1 := ⟨_, rfl⟩
   obtain ⟨A2, hr2, hp2⟩ := highC a1 v.ch.length x1 k1 v.cs w1 hs1 hsl1 (by omega) hs3 (by omega) hs4
   have hw1 : IntKind.i64.wrap ((k : Int) + 1) = (k1 : Int) := by rw [show (k : Int) + 1 = (k1 : Int) by omega]; exact IntWalk.i64_in _ (by omega)
   obtain ⟨CS, hCS⟩ : ∃ CS, CS = v.cs.take k ++ (Q.map Prod.fst ++ v.cs.drop k1) := ⟨_, rfl⟩
   obtain ⟨KS, hKS⟩ : ∃ KS, KS = (v.ch.map fun x => x.2.b) := ⟨_, rfl⟩
   have hKL : KS.length = v.ch.length := by rw [hKS, List.length_map]
   have hkd1 : w1.ownsRow 0 97 1 (.slice a3 KS.length x3) KS.length (cellsVx KS) := by
    have h1 := own_below (show w.ownsRow 0 97 1 _ _ _ from hkd) hB
    rw [List.length_map] at h1
    rw [hKL, hKS]
    exact h1
   rw [← hKL] at hV1
   obtain ⟨W3, hW3⟩ : ∃ W3, W3 = (w1.alloc (.cells #[.slice a1 k x1, .slice sa Q.length sc, .slice A2 (v.ch.length - k1) (x1 - k1)] 100)).drew := ⟨_, rfl⟩
   have hX3 : Below w1.heap.size w1 W3 := by rw [hW3]; exact below_drew' ((Below.refl _ _).alloc (Nat.le_refl _) _)
   have hcb : w1.heap.size < W3.heap.size := by rw [hW3]; simp
   have g0 : W3.cell? ⟨w1.heap.size, 0, none⟩ = some (.slice a1 k x1) := by rw [hW3]; exact cell_drew (by rw [World.cell?_alloc_at _ _ _ _ rfl]; rfl)
   have g1 : W3.cell? ⟨w1.heap.size, 1, none⟩ = some (.slice sa Q.length sc) := by rw [hW3]; exact cell_drew (by rw [World.cell?_alloc_at _ _ _ _ rfl]; rfl)
   have g2 : W3.cell? ⟨w1.heap.size, 2, none⟩ = some (.slice A2 (v.ch.length - k1) (x1 - k1)) := by rw [hW3]; exact cell_drew (by rw [World.cell?_alloc_at _ _ _ _ rfl]; rfl)
   have HCC := Lib.hid (concatS_C w1.heap.size a1 sa A2 k Q.length (v.ch.length - k1) x1 sc (x1 - k1) _ _ _ W3 hcb g0 g1 g2 (hp1.kept hX3 (Nat.le_refl _)) (hSC.kept hX3 (Nat.le_refl _)) (hp2.kept hX3 (Nat.le_refl _)) (by rw [List.length_take]; omega) (by rw [List.length_map]; omega) (by rw [List.length_drop]; omega))
   rw [← hCS] at HCC
   have HX := Lib.hid (And.intro hCS (And.intro hk1 (And.intro hKS (And.intro hkn hv2))))
   have HF := Lib.hid (And.intro hV1 (And.intro hn1.parts.2 (And.intro hkd1 (And.intro hX3 hB))))
   have HPT := Lib.hid (And.intro hpt hnd)
   clear hCS hk1 hKS g0 g1 g2 hcb hp1 hp2 hSC hn1 hs1 hkd1 hX3 hown hv hpt hnd hkd hV1 hs2 hs3 hs4 hsl1 hkn hKL hj hj0 hjl hv2 eo2
   go_upto_region 6 with (fail)
   go_cut [] from 23 to 44 (fun wx => ∃ ga gc, Hid (PutAt w v pa pg ps CS KS ga gc a2 x2 a3 x3 wx))
   case first =>
    go_region_law (first | (go_simp; rw [← hW3]; go_at_call 132; refine HCC.out.mono ?_; rintro e w4 ⟨⟨v', rfl, hown4⟩, hX4⟩; obtain ⟨ga, gc, rfl⟩ := own_form hown4; have z6 := kept_cell hX4 (kept_cell HF.out.2.2.2.1 v6); have zf := kept_frozen hX4 (kept_cell HF.out.2.2.2.1 v6) (kept_frozen HF.out.2.2.2.1 v6 f6); have HO4 := Lib.hid (And.intro hown4 hX4); clear hown4 hX4))
    all_goals
     obtain ⟨hown4, hX4⟩ := HO4.out
     obtain ⟨hV1, hus1, hkd1, hX3, hB'⟩ := HF.out
     have hX := hX3.trans (hX4.mono hX3.size)
     have hV4 := hV1.on hX
     have hb4 := hB'.trans (hX.mono hB'.size)
     have hKs : Keep (fun x => x = v.b) w4 (w4.setCell ⟨v.b, 6, none⟩ (.slice ga CS.length gc)) := (Keep.refl (fun x => x = v.b) w4).setCell ⟨v.b, 6, none⟩ (Or.inl rfl) _
     have hp : PutAt w v pa pg ps CS KS ga gc a2 x2 a3 x3 (w4.setCell ⟨v.b, 6, none⟩ (.slice ga CS.length gc)) := ⟨(Keep.of_below (S := fun x => x = v.b) hb4).trans' hKs, ⟨hV4.row.put 6 _⟩, own_base (ownsRow_setCell_other (a := ⟨v.b, 6, none⟩) hown4 (hV4.noRow hown4 (by decide)) _) (by have h1 := hB'.size; have h2 := hX3.size; omega), ownsRow_setCell_other (a := ⟨v.b, 6, none⟩) (own_below hkd1 hX) (hV4.noRow (own_below hkd1 hX) (by decide)) _⟩
     go_wp2_with fail
     go_meet
     exact ⟨ga, gc, Lib.hid hp⟩
   case rest =>
   obtain ⟨ga, gc, HP⟩ := hcut
   obtain ⟨w5, hw5⟩ : ∃ w5, w5 = wc := ⟨_, rfl⟩
   subst hw5
   have hkv5 : SlV w5 (.slice a3 KS.length x3) KS := (SlV.of_own HP.out.kids).2
   obtain ⟨ao, xo, eo, hs1, hs2, hs3, hs4⟩ := hkv5
   simp only [Value.slice.injEq, true_and] at eo
   obtain ⟨rfl, rfl⟩ := eo
   have hKL : KS.length = v.ch.length := by rw [HX.out.2.2.1, List.length_map]
   have hkn := HX.out.2.2.2.1
   have hv2 := HX.out.2.2.2.2
   have hk1 := HX.out.2.1
   obtain ⟨hr3, hp3⟩ := lowVx a3 KS.length x3 k KS w5 hs1 rfl (by omega) hs3 (by omega) hs4
   obtain ⟨A4, hr4, hp4⟩ := highVx a3 KS.length x3 k1 KS w5 hs1 rfl (by omega) hs3 (by omega) hs4
   obtain ⟨K2, hK2⟩ : ∃ K2, K2 = KS.take k ++ (Q.map (fun x => x.2.b) ++ KS.drop k1) := ⟨_, rfl⟩
   have hvw : ∃ pa pg ps a1 n1 c1 a2 n2 c2 a3 n3 c3 a4 n4 c4, VxAt w v.b v.kn.isSome pa pg ps v.ld (.slice a1 n1 c1) (.slice a2 n2 c2) (.slice a3 n3 c3) (.slice a4 n4 c4) := HM.out.vxAt
   obtain ⟨_, _, _, _, _, _, _, _, _, _, _, _, _, _, _, hvw⟩ := hvw
   have hq5 : SlV w5 (.slice ka Q.length kc) (Q.map fun x => x.2.b) := HKV.out.keep HP.out.keep hvw.noPtr
   clear hvw
   have v8 := HP.out.vx.c8
   have f8 := HP.out.vx.fz 8
   obtain ⟨W7, hW7⟩ : ∃ W7, W7 = (w5.alloc (.cells #[.slice a3 k x3, .slice ka Q.length kc, .slice A4 (KS.length - k1) (x3 - k1)] 106)).drew := ⟨_, rfl⟩
   have hX7 : Below w5.heap.size w5 W7 := by rw [hW7]; exact below_drew' ((Below.refl _ _).alloc (Nat.le_refl _) _)
   have hcb : w5.heap.size < W7.heap.size := by rw [hW7]; simp
   have g0 : W7.cell? ⟨w5.heap.size, 0, none⟩ = some (.slice a3 k x3) := by rw [hW7]; exact cell_drew (by rw [World.cell?_alloc_at _ _ _ _ rfl]; rfl)
   have g1 : W7.cell? ⟨w5.heap.size, 1, none⟩ = some (.slice ka Q.length kc) := by rw [hW7]; exact cell_drew (by rw [World.cell?_alloc_at _ _ _ _ rfl]; rfl)
   have g2 : W7.cell? ⟨w5.heap.size, 2, none⟩ = some (.slice A4 (KS.length - k1) (x3 - k1)) := by rw [hW7]; exact cell_drew (by rw [World.cell?_alloc_at _ _ _ _ rfl]; rfl)
   have HCV := Lib.hid (concatS_Vx w5.heap.size a3 ka A4 k Q.length (KS.length - k1) x3 kc (x3 - k1) _ _ _ W7 hcb g0 g1 g2 (hp3.kept hX7 (Nat.le_refl _)) (hq5.kept hX7 (Nat.le_refl _)) (hp4.kept hX7 (Nat.le_refl _)) (by rw [List.length_take]; omega) (by rw [List.length_map]; omega) (by rw [List.length_drop]; omega))
   rw [← hK2] at HCV
   have HX7 := Lib.hid (And.intro hX7 hK2)
   clear hK2 g0 g1 g2 hcb hp3 hp4 hq5 hs1 hs2 hs3 hs4 hX7 hKL hkn hk1 hv2 v6 f6 hr1 hr2
   go_upto_region 7 with (fail)
   go_cut [] from 45 to 63 (fun wx => ∃ gb gd, Hid (PutAt w v pa pg ps CS K2 ga gc a2 x2 gb gd wx))
   case first =>
    go_region_law (first | (go_simp; rw [← hW7]; go_at_call 133; refine HCV.out.mono ?_; rintro e w8 ⟨⟨v', rfl, hown8⟩, hX8⟩; obtain ⟨gb, gd, rfl⟩ := own_form hown8; have z8 := kept_cell hX8 (kept_cell HX7.out.1 v8); have zf := kept_frozen hX8 (kept_cell HX7.out.1 v8) (kept_frozen HX7.out.1 v8 f8); have HO8 := Lib.hid (And.intro hown8 hX8); clear hown8 hX8))
    all_goals
     obtain ⟨hown8, hX8⟩ := HO8.out
     obtain ⟨hX7, hK2⟩ := HX7.out
     have hX := hX7.trans (hX8.mono hX7.size)
     have hV8 := HP.out.vx.on hX
     have hKs : Keep (fun x => x = v.b) w8 (w8.setCell ⟨v.b, 8, none⟩ (.slice gb K2.length gd)) := (Keep.refl (fun x => x = v.b) w8).setCell ⟨v.b, 8, none⟩ (Or.inl rfl) _
     have hp : PutAt w v pa pg ps CS K2 ga gc a2 x2 gb gd (w8.setCell ⟨v.b, 8, none⟩ (.slice gb K2.length gd)) := ⟨(HP.out.keep.on hX).trans' hKs, ⟨hV8.row.put 8 _⟩, ownsRow_setCell_other (a := ⟨v.b, 8, none⟩) (own_below HP.out.rowC hX) (hV8.noRow (own_below HP.out.rowC hX) (by decide)) _, own_base (ownsRow_setCell_other (a := ⟨v.b, 8, none⟩) hown8 (hV8.noRow hown8 (by decide)) _) (Nat.zero_le _)⟩
     go_wp2_with fail
     go_meet
     exact ⟨gb, gd, Lib.hid hp⟩
   case rest =>
   obtain ⟨gb, gd, HP9⟩ := hcut
   obtain ⟨w9, hw9⟩ : ∃ w9, w9 = wc := ⟨_, rfl⟩
   subst hw9
   have v6 := HP9.out.vx.c6
   have hCE : CS = (A ++ (Q ++ D)).map Prod.fst := by
    obtain ⟨h1, h2, -⟩ := HE.out
    rw [HX.out.1, HX.out.2.1, h2, Vt.cs, h1, (cut_list Prod.fst A D (c, t)).1, (cut_list Prod.fst A D (c, t)).2, List.map_append, List.map_append]
   have hC0 : 0 < CS.length := by
    rw [hCE, List.length_map]
    exact List.length_pos_iff.2 HE.out.2.2
   have hC1 : (0 : Int) < (CS.length : Int) := by omega
   obtain ⟨g, rfl, hg1, hg2, hg3⟩ := own_at HP9.out.rowC hC0
   obtain ⟨low0, CS', hCC⟩ : ∃ c0 CS', CS = c0 :: CS' := by
    cases hc : CS with
    | nil => rw [hc] at hC0; simp at hC0
    | cons a b => exact ⟨a, b, rfl⟩
   have r0 : w9.cell? ⟨g, 0, none⟩ = some (.string (S low0.low)) := hg3 0 _ (by rw [hCC]; rfl)
   obtain ⟨cur, hcur⟩ := own_rowIs HP9.out.rowC g rfl
   have rf := hcur.frozen 0
   have HCE := Lib.hid (And.intro hCE (And.intro hC0 hg1))
   clear hCE hg3 hCC hcur hg1
   go_wp2_with fail
   obtain ⟨hCE, hC0, hg1⟩ := HCE.out
   have hgv : v.b ≠ g := fun e => by
    obtain ⟨cur, hc⟩ := own_rowIs HP9.out.rowC g rfl
    have h1 := HP9.out.vx.row
    rw [e] at h1
    exact absurd (hc.one h1).1 (by decide)
   have hK9 : Keep (fun x => x = v.b) w (w9.setCell ⟨g, 0, none⟩ (.string ⟨#[]⟩)) := HP9.out.keep.setCell ⟨g, 0, none⟩ (Or.inr hg1) _
   have hV9 := HP9.out.vx.far ⟨g, 0, none⟩ hgv (.string ⟨#[]⟩)
   have hfl : (fixHead (A ++ (Q ++ D))).length = CS.length := by rw [fixHead_len, hCE, List.length_map]
   have hK2 : K2 = (A ++ (Q ++ D)).map fun x => x.2.b := by
    obtain ⟨h1, h2, -⟩ := HE.out
    rw [HX7.out.2, HX.out.2.2.1, HX.out.2.1, h2, h1, (cut_list (fun x : Chd × Vt => x.2.b) A D (c, t)).1, (cut_list (fun x : Chd × Vt => x.2.b) A D (c, t)).2, List.map_append, List.map_append]
   have hfb : (fixHead (A ++ (Q ++ D))).map (fun x => x.2.b) = K2 := by
    rw [hK2]
    cases A ++ (Q ++ D) <;> rfl
   have hK2l : K2.length = CS.length := by rw [← hfb, List.length_map, hfl]
   have hrow := own_head HP9.out.rowC hC0
   have hkids : (w9.setCell ⟨g, 0, none⟩ (.string ⟨#[]⟩)).ownsRow 0 97 1 (.slice gb K2.length gd) K2.length (cellsVx K2) := ownsRow_setCell_other (a := ⟨g, 0, none⟩) HP9.out.kids (fun e => by
    obtain ⟨cur, hc⟩ := own_rowIs HP9.out.kids g e
    obtain ⟨cur', hc'⟩ := own_rowIs HP9.out.rowC g rfl
    exact absurd (hc.one hc').1 (by decide)) _
   have hSo := (HM.out.lt v.b HM.out.head).1
   have hus9 := (HPT.out.2.parts.2).keep hK9 fun b e => by rw [show b = v.b from e]; exact hSo.str
   refine bodyPost_end (v := .tuple #[]) (by simp [results, Tryz.results100, go_sem]) rfl ⟨rfl, hK9, hl, pa, pg, ps, some ⟨g, 0, none⟩, gc, a2, x2, gb, gd, ?_, ?_, ?_, ?_⟩
   ·show VxAt _ v.b v.kn.isSome pa pg ps true _ (.slice _ (fixHead (A ++ (Q ++ D))).length gc) _ (.slice gb (fixHead (A ++ (Q ++ D))).length gd)
    rw [hfl]
    rw [hK2l] at hV9
    exact hV9
   ·exact HPT.out.1
   ·show NodeAt _ (.agg #[.slice _ (fixHead (A ++ (Q ++ D))).length gc, .slice a2 v.us.length x2]) ((fixHead (A ++ (Q ++ D))).map Prod.fst) v.us
    rw [hfl, fixHead_fst, ← hCE]
    have h1 := (SlC.of_own (n := CS.length) (l := headless CS) hrow).2
    exact NodeAt.mk' h1 hus9
   ·show KdAt _ (.slice gb (fixHead (A ++ (Q ++ D))).length gd) ((fixHead (A ++ (Q ++ D))).map fun x => x.2.b)
    rw [hfl, hfb, ← hK2l]
    exact hkids
open Go.RowKit
attribute [local go_sem ↓] Go.wp_at_zero Go.wp_at_succ
theorem partOf_flat (l : List Ent) (n : Nat) (hn : 0 < n) : ∀ k, k ≤ n → (List.range k).flatMap (partOf l n) = l.take (partAt l.length n k)
 | 0, _ => by simp [partAt_zero]
 | k + 1, h => by
  rw [List.range_succ, List.flatMap_append, partOf_flat l n hn k (by omega)]
  simp only [List.flatMap_cons, List.flatMap_nil, List.append_nil]
  unfold partOf
  have h1 : partAt l.length n k ≤ partAt l.length n (k + 1) := partAt_mono _ _ _ _ (by omega)
  have := List.take_append_drop (partAt l.length n k) (l.take (partAt l.length n (k + 1)))
  rw [List.take_take, Nat.min_eq_left h1] at this
  exact this
theorem partsN_big {len L : Nat} (hL : 3 ≤ L) (h : L < len) : 2 ≤ partsN len L ∧ 2 * partsN len L ≤ len ∧ len ≤ partsN len L * L := by
 unfold partsN
 rw [if_neg (by omega)]
 have h1 : (len - 1) / L * L ≤ len - 1 := Nat.div_mul_le_self _ _
 have h2 : len - 1 < ((len - 1) / L + 1) * L := by
  have := Nat.lt_div_mul_add (a := len - 1) (b := L) (by omega)
  rw [Nat.add_mul, Nat.one_mul]
  exact this
 have h3 : 1 ≤ (len - 1) / L := Nat.div_pos (by omega) (by omega)
 have h4 : (len - 1) / L * 3 ≤ (len - 1) / L * L := Nat.mul_le_mul_left _ hL
 refine ⟨by omega, by omega, by omega⟩
theorem partsN_small {len L : Nat} (hL : 3 ≤ L) (h : len ≤ L) : partsN len L = 1 := by
 unfold partsN
 split
 ·rfl
 ·rw [Nat.div_eq_of_lt (by omega)]
theorem partOf_big {l : List Ent} {L : Nat} (hL : 3 ≤ L) (h : L < l.length) {k : Nat} (hk : k < partsN l.length L) : 2 ≤ (partOf l (partsN l.length L) k).length ∧ (partOf l (partsN l.length L) k).length ≤ L := by
 obtain ⟨h1, h2, h3⟩ := partsN_big hL h
 rw [partOf_len _ _ _ (by omega) hk]
 generalize hN : partsN l.length L = N at *
 have hm := Nat.div_add_mod l.length N
 have hlt := Nat.mod_lt l.length (show 0 < N by omega)
 have h4 : 2 ≤ l.length / N := (Nat.le_div_iff_mul_le (by omega)).2 h2
 have h5 : N * (l.length / N) ≤ N * L := by omega
 have h6 : l.length / N ≤ L := Nat.le_of_mul_le_mul_left h5 (by omega)
 refine ⟨by omega, ?_⟩
 split
 ·rename_i hlt2
  rcases Nat.lt_or_ge (l.length / N) L with h7 | h7
  ·omega
  ·have e : l.length / N = L := by omega
   rw [e] at hm
   omega
 ·omega
def lowOf (low : List UInt8) (l : List Ent) (n k : Nat) : List UInt8 := if k = 0 then low else ((partOf l n k)[0]?.map Ent.key).getD []
structure LfAt (w : World) (t : Vt) : Prop where
 ex : ∃ a c B, VxAt w t.b false 0 0 0 true (.slice a t.es.length c) (.slice none 0 0) (.slice none 0 0) (.slice none 0 0) ∧ w.ownsRow B 73 2 (.slice a t.es.length c) t.es.length (cellsE t.es)
theorem LfAt.on {w w' : World} {t : Vt} (h : LfAt w t) (hb : Below w.heap.size w w') : LfAt w' t := by
 obtain ⟨a, c, B, h1, h2⟩ := h
 exact ⟨a, c, B, h1.on hb, own_below h2 hb⟩
theorem LfAt.grown {w w' : World} {t : Vt} (h : LfAt w t) {B : Nat} {E : TypeId} {k : Nat} {v : Value} {n : Nat} {xs : List Value} (ho : w.ownsRow B E k v n xs) (hg : w.grownBy w' v.ownBlock) (h1 : E ≠ 108) (h2 : E ≠ 73) : LfAt w' t := by
 obtain ⟨a, c, B', h3, h4⟩ := h
 exact ⟨a, c, B', ⟨h3.row.kept hg fun e => h3.noRow ho h1 e.symm⟩, h4.kept hg (own_types h4 ho fun e => h2 e.symm)⟩
theorem LfAt.tree {w : World} {t : Vt} (h : LfAt w t) (hm : t.mem = true) (hk : t.kn = none) (hl : t.ld = true) : Mem w 0 t := by
 obtain ⟨a, c, B, h1, h2⟩ := h
 exact ⟨hm, Or.inl ⟨hl, 0, 0, 0, a, c, by rw [hk]; exact h1, fun p hp => (by rw [hk] at hp; cases hp), BoxE.of_own h2⟩⟩
theorem PartsAt.grown {B : Nat} {v : Value} {ls : Nat → List Ent} {n : Nat} {w w' : World} (h : PartsAt B v ls n w) {B' : Nat} {E : TypeId} {k : Nat} {u : Value} {m : Nat} {xs : List Value} (ho : w.ownsRow B' E k u m xs) (hg : w.grownBy w' u.ownBlock) (h1 : E ≠ 99) (h2 : E ≠ 73) : PartsAt B v ls n w' := by
 obtain ⟨vs, h3, h4⟩ := h
 refine ⟨vs, h3.kept hg (own_types h3 ho fun e => h1 e.symm), fun j hj => ?_⟩
 obtain ⟨x, hx, a, c, B2, e, h5⟩ := h4 j hj
 exact ⟨x, hx, a, c, B2, e, h5.kept hg (own_types h5 ho fun e => h2 e.symm)⟩
structure PtAt (w0 : World) (es : List Ent) (n : Nat) (low : List UInt8) (Q : List (Chd × Vt)) (a8 a9 : Value) (w : World) : Prop where
 keep : Below w0.heap.size w0 w
 rowK : w.ownsRow w0.heap.size 97 1 a8 Q.length (cellsVx (Q.map fun x => x.2.b))
 lt : ∀ x ∈ Q, x.2.b < w.heap.size
 rowL : w.ownsRow w0.heap.size 9 1 a9 Q.length ((Q.map lw).map fun s => .string (S s))
 mem : ∀ x ∈ Q, LfAt w x.2 ∧ x.2.mem = true ∧ x.2.kn = none ∧ x.2.ld = true ∧ x.2.us = [] ∧ x.2.ch = [] ∧ w0.heap.size ≤ x.2.b ∧ x.1 = ⟨lw x, 0, 0, 0⟩
 nodup : (Q.map fun x => x.2.b).Nodup
 es : ∀ i x, Q[i]? = some x → x.2.es = partOf es n i ∧ lw x = lowOf low es n i
theorem PtAt.on {w0 w w' : World} {es : List Ent} {n : Nat} {low : List UInt8} {Q : List (Chd × Vt)} {a8 a9 : Value} (h : PtAt w0 es n low Q a8 a9 w) (hb : Below w.heap.size w w') : PtAt w0 es n low Q a8 a9 w' :=
 ⟨h.keep.trans (hb.mono h.keep.size), own_below h.rowK hb, fun x hx => Nat.lt_of_lt_of_le (h.lt x hx) hb.size, own_below h.rowL hb, fun x hx => ⟨(h.mem x hx).1.on hb, (h.mem x hx).2⟩, h.nodup, h.es⟩
theorem PtAt.all {w0 w : World} {es : List Ent} {L : Nat} {low : List UInt8} {Q : List (Chd × Vt)} {a8 a9 : Value} (h : PtAt w0 es (partsN es.length L) low Q a8 a9 w) (hq : Q.length = partsN es.length L) (hL : 3 ≤ L) (hl : L < es.length) : PartsQ L low es Q := by
 obtain ⟨h1, h2, h3⟩ := partsN_big hL hl
 refine ⟨?_, by omega, ?_, fun x hx => (h.mem x hx).2.2.2.2.2.2.2, fun x hx => ?_, fun x hx => ?_, fun x hx => ?_⟩
 ·have hf := partOf_flat es (partsN es.length L) (by omega) _ (Nat.le_refl _)
  rw [partAt_all _ _ (by omega), List.take_length] at hf
  rw [← hf]
  have : Q.map (fun x => x.2.es) = (List.range (partsN es.length L)).map (partOf es (partsN es.length L)) := by
   apply List.ext_getElem?
   intro i
   rw [List.getElem?_map, List.getElem?_map]
   by_cases hi : i < Q.length
   ·rw [List.getElem?_eq_getElem hi, List.getElem?_range (by omega)]
    exact congrArg some (h.es i _ (List.getElem?_eq_getElem hi)).1
   ·rw [List.getElem?_eq_none (by omega), List.getElem?_eq_none (by rw [List.length_range]; omega)]
    rfl
  rw [List.flatMap_def, List.flatMap_def, this]
 ·cases Q with
  | nil => simp at hq; omega
  | cons x Q => exact (h.es 0 x rfl).2
 ·obtain ⟨-, g1, g2, g3, g4, g5, -⟩ := h.mem x hx
  exact ⟨g4, g5, g1, g3, g2⟩
 ·obtain ⟨i, hi, e⟩ := List.getElem_of_mem hx
  rw [List.getElem_tail] at e
  rw [List.length_tail] at hi
  have h4 := h.es (i + 1) x (by rw [List.getElem?_eq_getElem (by omega), e])
  have h5 := partOf_big hL hl (k := i + 1) (by omega)
  refine ⟨(partOf es (partsN es.length L) (i + 1))[0]'(by omega), ?_, ?_⟩
  ·rw [h4.1, List.getElem?_eq_getElem (by omega)]
  ·rw [h4.2, lowOf, if_neg (by omega), List.getElem?_eq_getElem (by omega)]
   rfl
 ·obtain ⟨i, hi, e⟩ := List.getElem_of_mem hx
  have h4 := h.es i x (by rw [List.getElem?_eq_getElem hi, e])
  rw [h4.1]
  exact partOf_big hL hl (by omega)
theorem infoStr : (Tryz.prog.info? 9).map (fun i => (i.zero, i.size, i.bytes)) = some (some (.string ByteArray.empty), 1, 16) := by kernel_rfl
theorem partsT {K : Kx} {root h : Nat} {T : Tx} {v : Vt} (low : List UInt8) (w : World) (c : CAt w K root h T) (hm : Mem w 0 v) (hl : v.ld = true) (hp : pot 0 v ≤ 1000) (hL : 3 ≤ K.L) (hL2 : K.L ≤ 1000) :
  Calls Tryz.prog 70 #[.pointer (some ⟨K.tb, 0, none⟩), .pointer (some ⟨v.b, 0, none⟩), .string (S low)] w fun e w' => ∃ Q kv lv, e = .returned (.tuple #[kv, lv]) ∧ PtAt w v.es (partsN v.es.length K.L) low Q kv lv w' ∧ Q.length = partsN v.es.length K.L := by
 obtain ⟨-, pa, pg, ps, a, x, hv, -, hb⟩ := hm.leaf hl
 have hes := pot_es hp
 have htm : (tmax (K.L : Int) 1).toNat = K.L := by unfold tmax; split <;> omega
 have hnp := partsN_pos v.es.length K.L
 have hnl := partsN_le v.es.length K.L
 have hbig : ∀ k, 0 < k → k < partsN v.es.length K.L → 0 < (partOf v.es (partsN v.es.length K.L) k).length := fun k h0 hk => by
  by_cases hq : K.L < v.es.length
  ·have := (partOf_big hL hq hk).1; omega
  ·rw [partsN_small hL (by omega)] at hk; omega
 have HPT := Lib.hid (fun w1 (hb1 : Below w.heap.size w w1) => parts_any (.agg #[.slice a v.es.length x]) v.es (K.L : Int) w1 (hb.kept hb1 (Nat.le_refl _)) (by omega) (by omega))
 rw [htm] at HPT
 obtain ⟨i0, hi, hz0, hz1, hz2⟩ := info_parts infoVx
 obtain ⟨i1, hi1, hy0, hy1, hy2⟩ := info_parts infoStr
 generalize hN : partsN v.es.length K.L = N at *
 have HN := Lib.hid (And.intro hN hbig)
 have c5 := hv.c5
 have t2 := c.tr.c2
 clear hN hbig hb htm
 go_enter Tryz.func70, Tryz.ntmps70
 go_upto_region 3 with (fail)
 have hdr : Below w.heap.size w w.drew := below_drew' (Below.refl _ _)
 have HPT1 := Lib.hid (HPT.out w.drew hdr)
 have hsz : w.drew.heap.size = w.heap.size := rfl
 rw [hsz] at HPT1
 clear hsz
 go_cut [21, 22, 23] from 12 to 23 (fun s21 s22 s23 wx => ∃ ga gc, s21 = .slice ga N gc ∧ s22 = .int .i64 N ∧ s23 = .int .i64 0 ∧ Hid (PartsAt w.heap.size (.slice ga N gc) (partOf v.es N) N wx ∧ Below w.heap.size w wx))
 case first =>
  go_region_law (first | (go_simp; go_at_call 97; refine HPT1.out.mono ?_; rintro e w2 ⟨⟨v', rfl, hP⟩, hX⟩; obtain ⟨ga, gc, rfl⟩ : ∃ ga gc, v' = .slice ga N gc := (by obtain ⟨vs, h1, -⟩ := hP.form; exact own_form h1); have HP2 := Lib.hid (And.intro hP hX); clear hP hX))
  all_goals
   have HP3 := Lib.hid (And.intro HP2.out.1 (hdr.trans (HP2.out.2.mono (Nat.le_refl _))))
   go_wp2_with fail
   go_meet
   exact ⟨ga, gc, rfl, rfl, rfl, HP3⟩
 case rest =>
 obtain ⟨ga, gc, rfl, rfl, rfl, HP⟩ := hcut
 obtain ⟨w2, hw2⟩ : ∃ w2, w2 = wc := ⟨_, rfl⟩
 subst hw2
 go_wp2_with fail
 go_loopw [2, 8, 9, 23] (fun lwv s8 s9 i wr => ∃ Q low', i = .int .i64 (Q.length : Nat) ∧ lwv = .string (S low') ∧ (Q = [] → low' = low) ∧ Q.length ≤ N ∧ Hid (PtAt w v.es N low Q s8 s9 wr ∧ PartsAt w.heap.size (.slice ga N gc) (partOf v.es N) N wr)) (fun _ _ _ i _ => N - (intOf i).toNat)
 case atStart => exact ⟨[], low, rfl, rfl, fun _ => rfl, Nat.zero_le _, Lib.hid ⟨⟨HP.out.2, World.ownsRow_nil _ _ _ _, fun x hx => by simp at hx, World.ownsRow_nil _ _ _ _, fun x hx => by simp at hx, by simp, fun i x hx => by simp at hx⟩, HP.out.1⟩⟩
 case round =>
  obtain ⟨Q, low', rfl, rfl, hlow, hj, HR⟩ := hrel
  obtain ⟨j, hjq⟩ : ∃ j, j = Q.length := ⟨_, rfl⟩
  rw [← hjq] at hj ⊢
  obtain ⟨a8, c8, rfl⟩ := own_form HR.out.1.rowK
  obtain ⟨a9, c9, rfl⟩ := own_form HR.out.1.rowL
  rw [← hjq] at HR ⊢
  have hj0 : (0 : Int) ≤ (j : Int) := Int.natCast_nonneg _
  by_cases hjl : j < N
  ·have hj1 : (j : Int) < (N : Int) := by omega
   obtain ⟨vs, hvs, hvx⟩ := HR.out.2.form
   obtain ⟨px, hpx, hpi⟩ := hvx j hjl
   obtain ⟨pa', pc', Bp, rfl, hpb⟩ := hpi
   obtain ⟨g, rfl, -, -, hgc⟩ := own_at hvs (by omega)
   have r0 := hgc j _ hpx
   have HPB := Lib.hid hpb
   have HJ := Lib.hid (And.intro hjq hlow)
   clear hvs hvx hpx hgc hpb hjq hlow
   obtain ⟨PE, hPE⟩ : ∃ PE, PE = partOf v.es N j := ⟨_, rfl⟩
   rw [← hPE] at HPB r0
   have HPE := Lib.hid hPE
   clear hPE
   go_upto_region 6 with (fail)
   obtain ⟨W1, hW1⟩ : ∃ W1, W1 = wr.alloc (.cells #[.slice pa' PE.length pc'] 99) := ⟨_, rfl⟩
   have hX1 : Below wr.heap.size wr W1 := by rw [hW1]; go_grown
   have b0 : W1.cell? ⟨wr.heap.size, 0, none⟩ = some (.slice pa' PE.length pc') := by rw [hW1, World.cell?_alloc_at _ _ _ _ rfl]; rfl
   have HB1 := Lib.hid (own_below HPB.out hX1)
   have HR1 := Lib.hid (And.intro (HR.out.1.on hX1) (HR.out.2.on hX1))
   rw [← hW1]
   clear hW1 hX1 r0
   go_upto_if 29 with (fail)
   go_cut [2] from 28 to 34 (fun s2 wx => s2 = .string (S (lowOf low v.es N j)) ∧ Below W1.heap.size W1 wx)
   case first =>
    by_cases h0 : j = 0
    ·have h1 : ¬ 0 < j := by omega
     have hq : Q = [] := List.eq_nil_of_length_eq_zero (by rw [← HJ.out.1]; exact h0)
     have e0 : low' = lowOf low v.es N j := by rw [HJ.out.2 hq, lowOf, if_pos h0]
     go_wp2_with fail
     go_meet
     exact ⟨by rw [e0], Below.refl _ _⟩
    ·have h1 : 0 < j := by omega
     have hpl : 0 < PE.length := by rw [HPE.out]; exact HN.out.2 j h1 hjl
     have hpl2 : PE.length ≤ 1000000 := by
      rw [HPE.out]
      unfold partOf
      rw [List.length_drop, List.length_take]
      omega
     have HLS := Lib.hid (listE (.agg #[.slice pa' PE.length pc']) PE W1 (BoxE.of_own HB1.out) hpl2)
     have hpl1 : (0 : Int) < (PE.length : Int) := by omega
     go_wp2_with fail
     refine HLS.out.mono ?_
     rintro e w3 ⟨⟨v', rfl, hown⟩, hX3⟩
     obtain ⟨ga3, gc3, rfl⟩ := own_form hown
     obtain ⟨g3, rfl, -, -, hc3⟩ := own_at hown hpl
     have e1 : lowOf low v.es N j = (PE[0]'hpl).key := by
      rw [lowOf, if_neg (by omega), ← HPE.out, List.getElem?_eq_getElem hpl]
      rfl
     have q0 : w3.cell? ⟨g3, 0, none⟩ = some (.string (S (PE[0]'hpl).key)) := hc3 0 _ (cellsE_get PE 0 hpl 0 _ rfl)
     generalize (PE[0]'hpl).key = kk at *
     have E1 := Lib.hid e1
     clear hown hc3 e1
     go_wp2_with fail
     go_meet
     exact ⟨by rw [E1.out], hX3⟩
   case rest =>
   obtain ⟨rfl, hX5⟩ := hcut
   obtain ⟨w5, hw5⟩ : ∃ w5, w5 = wc := ⟨_, rfl⟩
   subst hw5
   have b0' := kept_cell hX5 b0
   have HB5 := Lib.hid (own_below HB1.out hX5)
   have HR5 := Lib.hid (And.intro (HR1.out.1.on hX5) (HR1.out.2.on hX5))
   clear hX5 b0 HB1 HR1 HR HPB
   obtain ⟨lj, hlj⟩ : ∃ lj, lj = lowOf low v.es N j := ⟨_, rfl⟩
   rw [← hlj]
   have HLJ := Lib.hid hlj
   clear hlj
   have hK5 : w5.ownsRow w.heap.size 97 1 (.slice a8 j c8) j (cellsVx (Q.map fun x => x.2.b)) := by
    have h1 := HR5.out.1.rowK
    rw [← HJ.out.1] at h1
    exact h1
   have hL5 : w5.ownsRow w.heap.size 9 1 (.slice a9 j c9) j ((Q.map lw).map fun s => .string (S s)) := by
    have h1 := HR5.out.1.rowL
    rw [← HJ.out.1] at h1
    exact h1
   have hws := HR5.out.1.keep.size
   have hLK := own_types hL5 hK5 (by decide)
   go_upto_region 8 with (fail)
   go_wp2_with (at_builtin; first
    | (refine wpList_append_own_at _ rfl _ _ 106 rfl w.heap.size 97 i0 (.pointer none) 1 8 Tryz.underlying106 hi hz0 hz1 hz2 rfl (by decide) _ j _ rfl ((hK5.alloc _).alloc _) ⟨_, 0, none⟩ 1 1 [vp w5.heap.size] rfl rfl (fun q u hu => cell_one_at _ _ (by simp) _ _ q u hu) (fun u hu => by rw [List.mem_singleton] at hu; rw [hu]; rfl) (by unfold maxLen; omega) (by omega) (by simp; omega) ?_; intro v6 w6 hown6 hgrow6 hnil6 hat6; obtain ⟨a6, c6, rfl⟩ := own_form hown6)
    | (have hq6 := ((hL5.alloc _).alloc _).kept hgrow6 hLK; refine wpList_append_own_at _ rfl _ _ 152 rfl w.heap.size 9 i1 (.string ByteArray.empty) 1 16 Tryz.underlying152 hi1 hy0 hy1 hy2 rfl (by decide) _ j _ rfl (hq6.alloc _) ⟨_, 0, none⟩ 1 1 [.string (S lj)] rfl rfl (fun q u hu => cell_one_at _ _ (by simp) _ _ q u hu) (fun u hu => by rw [List.mem_singleton] at hu; rw [hu]; rfl) (by unfold maxLen; omega) (by omega) (by have := hgrow6.size; simp at this ⊢; omega) ?_; intro v7 w7 hown7 hgrow7 hnil7 hat7; obtain ⟨a7, c7, rfl⟩ := own_form hown7))
   have hKP := HR5.out.1
   have hP5 := HR5.out.2
   have hlt5 : ∀ X Y, w5.heap.size < ((w5.alloc X).alloc Y).heap.size := fun X Y => by simp; omega
   have hV5 : ∀ Y, VxAt ((w5.alloc (.cells #[.bool false, .int .i64 0, .int .u64 0, .int .u32 0, .bool true, .slice pa' PE.length pc', .slice none 0 0, .slice none 0 0, .slice none 0 0] 108)).alloc Y) w5.heap.size false 0 0 0 true (.slice pa' PE.length pc') (.slice none 0 0) (.slice none 0 0) (.slice none 0 0) := fun Y => ⟨(RowIs.new w5 _ (vxCells false 0 0 0 true (.slice pa' PE.length pc') (.slice none 0 0) (.slice none 0 0) (.slice none 0 0))).alloc Y⟩
   have hB5 : ∀ X Y, Below w5.heap.size w5 ((w5.alloc X).alloc Y) := fun X Y => ((Below.refl _ _).alloc (Nat.le_refl _) _).alloc (by simp) _
   obtain ⟨nt, hnt⟩ : ∃ nt : Chd × Vt, nt = (⟨lj, 0, 0, 0⟩, ⟨w5.heap.size, true, true, none, PE, [], []⟩) := ⟨_, rfl⟩
   have hPQ : PtAt w v.es N low (Q ++ [nt]) (.slice a6 (j + 1) c6) (.slice a7 (j + 1) c7) w7 ∧ PartsAt w.heap.size (.slice (some ⟨g, 0, none⟩) N gc) (partOf v.es N) N w7 := by
    have k2 := below_grown (hKP.keep.trans ((hB5 _ _).mono hws)) hgrow6 (fun k e => (hK5.lt k e).1) (by simp; omega)
    have k3 := k2.alloc k2.size (.cells #[.string (S lj)] 9)
    have k4 := below_grown k3 hgrow7 (fun k e => (hL5.lt k e).1) k3.size
    have hk6 := (hK5.alloc (.cells #[.bool false, .int .i64 0, .int .u64 0, .int .u32 0, .bool true, .slice pa' PE.length pc', .slice none 0 0, .slice none 0 0, .slice none 0 0] 108)).alloc (.cells #[.pointer (some ⟨w5.heap.size, 0, none⟩)] 97)
    replace hq6 : w6.ownsRow w.heap.size 9 1 (.slice a9 j c9) j ((Q.map lw).map fun s => .string (S s)) := hq6
    replace hgrow7 : (w6.alloc (.cells #[.string (S lj)] 9)).grownBy w7 (Value.slice a9 j c9).ownBlock := hgrow7
    have hz : ∀ W : World, Below W.heap.size W (W.alloc (.cells #[.string (S lj)] 9)) := fun W => (Below.refl _ _).alloc (Nat.le_refl _) _
    have hs6 := hgrow6.size
    have hs7 := hgrow7.size
    have hLf : ∀ t : Vt, LfAt ((w5.alloc (.cells #[.bool false, .int .i64 0, .int .u64 0, .int .u32 0, .bool true, .slice pa' PE.length pc', .slice none 0 0, .slice none 0 0, .slice none 0 0] 108)).alloc (.cells #[.pointer (some ⟨w5.heap.size, 0, none⟩)] 97)) t → LfAt w7 t := fun t ht => ((ht.grown hk6 hgrow6 (by decide) (by decide)).on (hz _)).grown (hq6.alloc _) hgrow7 (by decide) (by decide)
    have hnb : ∀ x ∈ Q, x.2.b ≠ w5.heap.size := fun x hx e => by have := hKP.lt x hx; omega
    have hsz : w5.heap.size < w7.heap.size := by
     simp only [World.size_alloc] at hs6 hs7
     omega
    refine ⟨⟨k4, ?_, fun x hx => ?_, ?_, fun x hx => ?_, ?_, fun i x hx => ?_⟩, ?_⟩
    ·rw [List.length_append, ← HJ.out.1, List.map_append, cellsVx_append, hnt]
     exact (hown6.alloc _).kept hgrow7 (own_types hown6 hq6 (by decide))
    ·rcases List.mem_append.1 hx with hx | hx
     ·have := hKP.lt x hx; omega
     ·rw [List.mem_singleton] at hx
      rw [hx, hnt]
      exact hsz
    ·rw [List.length_append, ← HJ.out.1, List.map_append, List.map_append, hnt]
     exact hown7
    ·rcases List.mem_append.1 hx with hx | hx
     ·exact ⟨hLf _ ((hKP.mem x hx).1.on (hB5 _ _)), (hKP.mem x hx).2⟩
     ·rw [List.mem_singleton] at hx
      rw [hx, hnt]
      exact ⟨hLf _ ⟨pa', pc', Bp, hV5 _, own_below HB5.out (hB5 _ _)⟩, rfl, rfl, rfl, rfl, rfl, hws, rfl⟩
    ·rw [List.map_append, List.nodup_append]
     refine ⟨hKP.nodup, by simp, fun a ha b hb e => ?_⟩
     obtain ⟨x, hx, rfl⟩ := List.mem_map.1 ha
     rw [List.map_cons, List.map_nil, List.mem_singleton, hnt] at hb
     exact hnb x hx (e.trans hb)
    ·by_cases hi : i < Q.length
     ·rw [List.getElem?_append_left hi] at hx
      exact hKP.es i x hx
     ·rw [List.getElem?_append_right (by omega)] at hx
      have : i - Q.length = 0 := by
       rcases Nat.eq_zero_or_pos (i - Q.length) with h0 | h0
       ·exact h0
       ·rw [List.getElem?_eq_none (by simp; omega)] at hx
        cases hx
      rw [this] at hx
      simp only [List.getElem?_cons_zero, Option.some.injEq] at hx
      have hij : i = j := by rw [HJ.out.1]; omega
      rw [← hx, hnt, hij]
      exact ⟨HPE.out, HLJ.out⟩
    ·exact (((hP5.on (hB5 _ _)).grown hk6 hgrow6 (by decide) (by decide)).on (hz _)).grown (hq6.alloc _) hgrow7 (by decide) (by decide)
   have HPQ := Lib.hid hPQ
   have hql : (Q ++ [nt]).length = j + 1 := by rw [List.length_append, ← HJ.out.1]; rfl
   refine ⟨⟨Q ++ [nt], lj, by rw [hql]; go_num, rfl, fun e => absurd e (by simp), by rw [hql]; omega, HPQ⟩, ?_⟩
   simp [intOf]
   omega
  ·obtain rfl : j = N := by omega
   go_wp2_with fail
   go_returns
   exact ⟨Q, _, _, rfl, HR.out.1, hjq.symm⟩
end Go.Proofs.YtafciefjlkdecaaGreat
