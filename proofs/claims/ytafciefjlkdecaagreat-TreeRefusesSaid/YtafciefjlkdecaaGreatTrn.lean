/-
  The walk of fetch, of a node.
-/
import Derived.Test.YtafciefjlkdecaaGreatTrk
import Derived.Shelf.Abstract
import Derived.Deep.DeepCutAuto
import Derived.Deep.CutBlock
namespace Go.Proofs.YtafciefjlkdecaaGreat
open Go.RowKit
attribute [local go_sem ↓] Go.wp_at_zero Go.wp_at_succ

theorem infoVx : (Tryz.prog.info? 97).map (fun i => (i.zero, i.size, i.bytes)) = some (some (.pointer none), 1, 8) := by kernel_rfl
/-- A vertex's pointer. -/
abbrev vp (b : Nat) : Value := .pointer (some ⟨b, 0, none⟩)
/-- A known vertex that isn't loaded. -/
abbrev Known (w : World) (b : Nat) (c : Chd) : Prop := VxAt w b true c.addr c.gen c.sum false (.slice none 0 0) (.slice none 0 0) (.slice none 0 0) (.slice none 0 0)

structure KidsTo (w5 : World) (ob : Nat) (pa : Int) (pg ps : Nat) (a1 : Option Addr) (c1 : Nat) (u : Value) (cs : List Chd) (ks : List Nat) (a3 : Option Addr) (c3 : Nat) (j : Nat) (w : World) : Prop where
  keep : Keep (fun b => b = ob) w5 w
  vx : VxAt w ob true pa pg ps true (.slice none 0 0) (.slice a1 cs.length c1) u (.slice a3 j c3)
  row : w.ownsRow w5.heap.size 97 1 (.slice a3 j c3) j (ks.map vp)
  len : ks.length = j
  kid : ∀ i c, cs[i]? = some c → i < j → ∃ b, ks[i]? = some b ∧ Known w b c ∧ w5.heap.size ≤ b
theorem KidsTo.on {w5 : World} {ob : Nat} {pa : Int} {pg ps : Nat} {a1 : Option Addr} {c1 : Nat} {u : Value} {cs : List Chd} {ks : List Nat} {a3 : Option Addr} {c3 : Nat} {j : Nat} {w w' : World} (h : KidsTo w5 ob pa pg ps a1 c1 u cs ks a3 c3 j w) (hb : Below w.heap.size w w') : KidsTo w5 ob pa pg ps a1 c1 u cs ks a3 c3 j w' :=
  ⟨h.keep.on hb, h.vx.on hb, own_below h.row hb, h.len, fun i c hc hi => by
    obtain ⟨b, h1, h2, h3⟩ := h.kid i c hc hi
    exact ⟨b, h1, h2.on hb, h3⟩⟩
theorem VxAt.putK {w : World} {b : Nat} {kn : Bool} {pa : Int} {pg ps : Nat} {ld : Bool} {lf cs us ks : Value} (h : VxAt w b kn pa pg ps ld lf cs us ks) (v : Value) : VxAt (w.setCell ⟨b, 8, none⟩ v) b kn pa pg ps ld lf cs us v := ⟨h.row.put 8 v⟩
/-- One kid more. -/
theorem KidsTo.more {w5 : World} {ob : Nat} {pa : Int} {pg ps : Nat} {a1 : Option Addr} {c1 : Nat} {u : Value} {cs : List Chd} {ks : List Nat} {a3 a3' : Option Addr} {c3 c3' : Nat} {j : Nat} {w wz : World} {kb : Nat} {c : Chd} (h : KidsTo w5 ob pa pg ps a1 c1 u cs ks a3 c3 j w) (hk : Known w kb c) (hkb : w5.heap.size ≤ kb) (hc : cs[j]? = some c)
    (hg : w.grownBy wz (Value.slice a3 j c3).ownBlock) (hr : wz.ownsRow w5.heap.size 97 1 (.slice a3' (j + 1) c3') (j + 1) (ks.map vp ++ [vp kb])) (hob : ob < w5.heap.size) (hrow : ∀ g, (Value.slice a3 j c3).ownBlock = some g → ∃ cur, RowIs w 97 g cur) :
    KidsTo w5 ob pa pg ps a1 c1 u cs (ks ++ [kb]) a3' c3' (j + 1) (wz.setCell ⟨ob, 8, none⟩ (.slice a3' (j + 1) c3')) := by
  have hne : ∀ b kn pa pg ps ld lf cs us kk, VxAt w b kn pa pg ps ld lf cs us kk → some b ≠ (Value.slice a3 j c3).ownBlock := fun b kn pa pg ps ld lf cs us kk hv e => by
    obtain ⟨cur, hcur⟩ := hrow b e.symm
    have h1 := hv.row
    unfold RowIs at h1 hcur
    rw [hcur] at h1
    simp at h1
  have hv : ∀ {b kn pa pg ps ld lf cs us kk}, VxAt w b kn pa pg ps ld lf cs us kk → VxAt wz b kn pa pg ps ld lf cs us kk := fun hx => ⟨hx.row.kept hg (hne _ _ _ _ _ _ _ _ _ _ hx)⟩
  have hgz : ∀ k, (Value.slice a3 j c3).ownBlock = some k → w5.heap.size ≤ k := fun k e => (h.row.lt k e).1
  refine ⟨((h.keep.grown hg fun k e => Or.inr (hgz k e)).setCell ⟨ob, 8, none⟩ (Or.inl rfl) _), (hv h.vx).putK _, ?_, by simp [h.len], fun i c' hc' hi => ?_⟩
  · rw [List.map_append]
    exact ownsRow_setCell_other (a := ⟨ob, 8, none⟩) hr (fun e => by have := (hr.lt ob e).1; omega) _
  · by_cases hij : i < j
    · obtain ⟨b, h1, h2, h3⟩ := h.kid i c' hc' hij
      exact ⟨b, by rw [List.getElem?_append_left (by rw [h.len]; exact hij)]; exact h1, (hv h2).far _ (by show b ≠ ob; omega) _, h3⟩
    · obtain rfl : i = j := by omega
      rw [hc] at hc'
      obtain rfl := Option.some.inj hc'
      exact ⟨kb, by rw [List.getElem?_append_right (by rw [h.len]; exact Nat.le_refl _), h.len]; simp, (hv hk).far _ (by show kb ≠ ob; omega) _, hkb⟩


theorem VxAt.putN {w : World} {b : Nat} {kn : Bool} {pa : Int} {pg ps : Nat} {ld : Bool} {lf cs us ks : Value} (h : VxAt w b kn pa pg ps ld lf cs us ks) (u v : Value) : VxAt ((w.setCell ⟨b, 6, none⟩ u).setCell ⟨b, 7, none⟩ v) b kn pa pg ps ld lf u v ks := ⟨(h.row.put 6 u).put 7 v⟩
structure NodeGot (w : World) (N : Nat) (pay : List UInt8) (pa : Int) (pg ps : Nat) (e : Ending) (w' : World) (ob : Nat) (cs : List Chd) (us : List Upd) (ks : List Nat) (a1 : Option Addr) (c1 : Nat) (a2 : Option Addr) (c2 : Nat) (a3 : Option Addr) (c3 : Nat) : Prop where
  ret : e = .returned (.tuple #[.pointer (some ⟨ob, 0, none⟩), .bool true, .int .i64 0])
  text : pay = textN cs us
  ok : NodeOk cs us
  new : w.heap.size ≤ ob
  vx : VxAt w' ob true pa pg ps true (.slice none 0 0) (.slice a1 cs.length c1) (.slice a2 us.length c2) (.slice a3 cs.length c3)
  node : NodeAt w' (.agg #[.slice a1 cs.length c1, .slice a2 us.length c2]) cs us
  row : w'.ownsRow N 97 1 (.slice a3 cs.length c3) cs.length (ks.map vp)
  rowC : w'.ownsRow w.heap.size 179 4 (.slice a1 cs.length c1) cs.length (cellsC cs)
  rowU : w'.ownsRow w.heap.size 39 4 (.slice a2 us.length c2) us.length (cellsU us)
  len : ks.length = cs.length
  kid : ∀ (i : Nat) (c : Chd), cs[i]? = some c → ∃ b, ks[i]? = some b ∧ Known w' b c ∧ N ≤ b

set_option maxRecDepth 100000 in
set_option maxHeartbeats 8000000 in
/-- A node is loaded. -/
theorem fetch_node {tb b : Nat} {F B L : Int} {fid : FuncId} {xs ys : Array Value} {root : Nat} {h' : Int} {gone : Value} {fl le : Int} {kn : Bool} {pa : Int} {pg ps : Nat} {lf cs us ks : Value} (k : Nat) (pay : List UInt8) (h : Int) (w : World)
    (ht : TrAt w tb F B L (.func (.func fid) xs ys) root h' gone fl le) (hv : VxAt w b kn pa pg ps false lf cs us ks) (hl : LoadIs fid xs ys pa pg ps k pay 0 w) (hk : k = 5) (hh : 1 < h) (hp : pay.length ≤ 10000) :
    Calls Tryz.prog 50 #[.pointer (some ⟨tb, 0, none⟩), .pointer (some ⟨b, 0, none⟩), .int .i64 h] w fun e w' => ((∃ N ob cs us ks a1 c1 a2 c2 a3 c3, w.heap.size ≤ N ∧ NodeGot w N pay pa pg ps e w' ob cs us ks a1 c1 a2 c2 a3 c3) ∨ ((∀ cs us, NodeOk cs us → pay ≠ textN cs us) ∧ e = .returned (.tuple #[.pointer none, .bool false, .int .i64 10]))) ∧ Below w.heap.size w w' := by
  subst hk
  have HP := Lib.hid (fun w' => nodeParse_any pay w' hp)
  have hh1 : (h == 1) = false := by simp; omega
  have hh2 : decide (1 < h) = true := by simpa using hh
  obtain ⟨i0, hi, iz0, iz1, iz2⟩ := info_parts infoVx
  have c4 := hv.c4
  have c1 := hv.c1
  have c2 := hv.c2
  have c3 := hv.c3
  have t3 := ht.c3
  have hent := hl.ent
  go_enter Tryz.func50, Tryz.ntmps50
  go_upto_region 3 with (fail)
  go_cut [9, 10, 11] (fun s9 s10 s11 wx => s9 = .int .u8 (5 : Nat) ∧ s10 = .string (S pay) ∧ s11 = .int .i64 0 ∧ Below w.heap.size w wx)
  case first =>
    go_region_law (first | (go_simp; go_at_fn fid; refine (hl.go _ (below_drew' (Below.refl _ _))).mono ?_; rintro e w2 ⟨rfl, hX⟩))
    all_goals
      have hX2 := (below_drew' (Below.refl w.heap.size w)).trans hX
      go_wp2_with fail
      go_meet
      exact ⟨rfl, rfl, rfl, hX2⟩
  case rest =>
  obtain ⟨rfl, rfl, rfl, hX2⟩ := hcut
  obtain ⟨w2, hw2⟩ : ∃ w2, w2 = wc := ⟨_, rfl⟩
  subst hw2
  replace c1 := kept_cell hX2 c1
  replace c2 := kept_cell hX2 c2
  replace c3 := kept_cell hX2 c3
  have hz := hX2.size
  have HX2 := Lib.hid hX2
  clear hX2 hl
  go_upto_region 8 with (fail)
  obtain ⟨W, hW⟩ : ∃ W, W = w2.alloc (.cells (vxCells true pa pg ps true (.slice none 0 0) (.slice none 0 0) (.slice none 0 0) (.slice none 0 0)).toArray 108) := ⟨_, rfl⟩
  have hV : VxAt W w2.heap.size true pa pg ps true (.slice none 0 0) (.slice none 0 0) (.slice none 0 0) (.slice none 0 0) := ⟨by rw [hW]; exact RowIs.new _ _ _⟩
  have hX3 : Below w.heap.size w W := by rw [hW]; exact HX2.out.alloc hz _
  have e0 : w2.alloc (.cells #[.bool true, .int .i64 pa, .int .u64 pg, .int .u32 ps, .bool true, .slice none 0 0, .slice none 0 0, .slice none 0 0, .slice none 0 0] 108) = W := hW.symm
  rw [e0]
  clear e0 hW HX2 c1 c2 c3
  go_wp2_with fail
  refine (thread (HP.out W) W.heap.size W (Below.refl _ _) (Nat.le_refl _)).mono ?_
  rintro e w4 ⟨hres, hX4, -, -, -, hz4⟩
  have hV4 := hV.on hX4
  have hLB := Lib.hid (hX3.trans (hX4.mono hX3.size))
  have hzw := hLB.out.size
  have hob := hV4.lt
  have v6 := hV4.c6
  have v7 := hV4.c7
  have f6 := hV4.fz 6
  have f7 := hV4.fz 7
  rcases hres with ⟨cs, us, v, h1, h2, rfl, h4, h5⟩ | ⟨hno, rfl⟩
  · obtain ⟨a1, a2, x1, x2, rfl, hsc, hsu⟩ := h4
    obtain ⟨a1', y1, a2', y2, ev, hrc, hru⟩ := h5
    simp only [Value.agg.injEq, Array.mk.injEq, List.cons.injEq, Value.slice.injEq, and_true, true_and] at ev
    obtain ⟨⟨rfl, rfl⟩, rfl, rfl⟩ := ev
    have HRC := Lib.hid hrc
    have HRU := Lib.hid hru
    have hWob : w2.heap.size < W.heap.size := hV.lt
    clear hrc hru
    have HN4 := Lib.hid (show NodeAt w4 (.agg #[.slice a1 cs.length x1, .slice a2 us.length x2]) cs us from ⟨a1, a2, x1, x2, rfl, hsc, hsu⟩)
    have HTX := Lib.hid h1
    have HOK := Lib.hid h2
    clear hsc hsu h1 h2
    go_upto_region 12 with (fail)
    obtain ⟨w5, hw5⟩ : ∃ w5, w5 = (w4.setCell ⟨w2.heap.size, 6, none⟩ (.slice a1 cs.length x1)).setCell ⟨w2.heap.size, 7, none⟩ (.slice a2 us.length x2) := ⟨_, rfl⟩
    have hV5 : VxAt w5 w2.heap.size true pa pg ps true (.slice none 0 0) (.slice a1 cs.length x1) (.slice a2 us.length x2) (.slice none 0 0) := by rw [hw5]; exact hV4.putN _ _
    have HN5 := Lib.hid (show NodeAt w5 (.agg #[.slice a1 cs.length x1, .slice a2 us.length x2]) cs us by
      rw [hw5]
      exact (HN4.out.setAt v6 _).setAt (p := ⟨w2.heap.size, 7, none⟩) ((World.cell?_setCell_other _ _ _ _ (addr_ne (Or.inr (by decide)))).trans v7) _)
    have hL5 : Below w.heap.size w w5 := by rw [hw5]; exact (hLB.out.setCell (p := ⟨w2.heap.size, 6, none⟩) hz _).setCell (p := ⟨w2.heap.size, 7, none⟩) hz _
    have HRC5 := Lib.hid (show w5.ownsRow W.heap.size 179 4 (.slice a1 cs.length x1) cs.length (cellsC cs) by
      rw [hw5]
      exact ownsRow_setCell_other (a := ⟨w2.heap.size, 7, none⟩) (ownsRow_setCell_other (a := ⟨w2.heap.size, 6, none⟩) HRC.out (fun e => by have := (HRC.out.lt w2.heap.size e).1; omega) _) (fun e => by have := (HRC.out.lt w2.heap.size e).1; omega) _)
    have HRU5 := Lib.hid (show w5.ownsRow W.heap.size 39 4 (.slice a2 us.length x2) us.length (cellsU us) by
      rw [hw5]
      exact ownsRow_setCell_other (a := ⟨w2.heap.size, 7, none⟩) (ownsRow_setCell_other (a := ⟨w2.heap.size, 6, none⟩) HRU.out (fun e => by have := (HRU.out.lt w2.heap.size e).1; omega) _) (fun e => by have := (HRU.out.lt w2.heap.size e).1; omega) _)
    have HWW := Lib.hid (show w.heap.size ≤ W.heap.size by omega)
    have HWO := Lib.hid hWob
    rw [← hw5]
    clear hw5 v6 v7 f6 f7 hLB hzw hX3 hX4 hV hz4 HN4 HRC HRU hWob
    have hob5 := hV5.lt
    have v6 := hV5.c6
    go_wp2_with fail
    go_loopw [78] (fun i wr => ∃ (j : Nat) (ks : List Nat) (a3 : Option Addr) (c3 : Nat), i = .int .i64 j ∧ j ≤ cs.length ∧ Hid (KidsTo w5 w2.heap.size pa pg ps a1 x1 (.slice a2 us.length x2) cs ks a3 c3 j wr)) (fun i _ => cs.length - (intOf i).toNat)
    case atStart => exact ⟨0, [], none, 0, rfl, Nat.zero_le _, Lib.hid ⟨Keep.refl _ _, hV5, World.ownsRow_nil _ _ _ _, rfl, fun i c _ h => absurd h (Nat.not_lt_zero _)⟩⟩
    case round =>
      obtain ⟨j, ks, a3, c3, rfl, hj, HK⟩ := hrel
      have hj0 : (0 : Int) ≤ (j : Int) := Int.natCast_nonneg _
      by_cases hjl : j < cs.length
      · have hj1 : (j : Int) < (cs.length : Int) := by omega
        obtain ⟨b0, off, ea, hb, t0, t1, t2, t3⟩ := (SlC.at ((HN5.out.keep HK.out.keep (fun x hx => by subst hx; exact hV5.noStr)).parts.1)).cells4C j hjl
        subst ea
        have HCJ := Lib.hid (List.getElem?_eq_getElem hjl)
        have hlc : cs.length ≤ 16 := HOK.out.kids.len.2
        generalize cs[j] = ch at *
        obtain ⟨low, ad, ge, su⟩ := ch
        dsimp only at t0 t1 t2 t3
        go_upto_region 15 with (fail)
        obtain ⟨W1, hW1⟩ : ∃ W1, W1 = wr.alloc (.cells #[.string (S low), .int .i64 ad, .int .u64 ge, .int .u32 su] 179) := ⟨_, rfl⟩
        have hX1 : Below wr.heap.size wr W1 := by rw [hW1]; go_grown
        have g1 : W1.cell? ⟨wr.heap.size, 1, none⟩ = some (.int .i64 ad) := by rw [hW1, World.cell?_alloc_at _ _ _ _ rfl]; rfl
        have g2 : W1.cell? ⟨wr.heap.size, 2, none⟩ = some (.int .u64 ge) := by rw [hW1, World.cell?_alloc_at _ _ _ _ rfl]; rfl
        have g3 : W1.cell? ⟨wr.heap.size, 3, none⟩ = some (.int .u32 su) := by rw [hW1, World.cell?_alloc_at _ _ _ _ rfl]; rfl
        have HK1 := Lib.hid (HK.out.on hX1)
        rw [← hW1]
        clear hW1 hX1 t0 t1 t2 t3 hb HK
        have p8 := HK1.out.vx.c8
        have hlt1 := HK1.out.vx.lt
        have hw5 := HK1.out.keep.size
        have p8a : ∀ x, (W1.alloc x).cell? ⟨w2.heap.size, 8, none⟩ = some (.slice a3 j c3) := fun x => (World.cell?_alloc_past _ _ _ hlt1).trans p8
        have p8b : ∀ x y, ((W1.alloc x).alloc y).cell? ⟨w2.heap.size, 8, none⟩ = some (.slice a3 j c3) := fun x y => (World.cell?_alloc_past _ _ _ (by simp; omega)).trans (p8a x)
        obtain ⟨W3, hW3⟩ : ∃ W3, W3 = ((W1.alloc (.cells #[.bool true, .int .i64 ad, .int .u64 ge, .int .u32 su, .bool false, .slice none 0 0, .slice none 0 0, .slice none 0 0, .slice none 0 0] 108)).alloc (.cells #[.pointer (some ⟨W1.heap.size, 0, none⟩)] 97)).drew := ⟨_, rfl⟩
        have hX3 : Below W1.heap.size W1 W3 := by rw [hW3]; exact below_drew' (((Below.refl _ _).alloc (Nat.le_refl _) _).alloc (by simp) _)
        have HK3 := Lib.hid (HK1.out.on hX3)
        have hkn : Known W3 W1.heap.size ⟨low, ad, ge, su⟩ := by
          rw [hW3]
          exact ⟨((RowIs.new W1 108 (vxCells true ad ge su false (.slice none 0 0) (.slice none 0 0) (.slice none 0 0) (.slice none 0 0))).alloc _).drew⟩
        have hrow := own_rowIs HK3.out.row
        have hcell : ∀ i u, [vp W1.heap.size][i]? = some u → W3.cell? ((⟨W1.heap.size + 1, 0, none⟩ : Addr).add i) = some u := fun i u hu => by
          rw [hW3]
          exact cell_drew (cell_one_at _ _ (by simp) _ _ i u hu)
        go_region_law (first | (rw [← hW3]; refine step_append_own (by rfl) _ _ 106 (by rfl) w5.heap.size 97 i0 (.pointer none) 1 8 Tryz.underlying106 hi iz0 iz1 iz2 rfl (by decide) _ j _ (by rfl) HK3.out.row ⟨W1.heap.size + 1, 0, none⟩ 1 1 [vp W1.heap.size] (by rfl) (by rfl) hcell (fun u hu => by rw [List.mem_singleton] at hu; rw [hu]; rfl) (by unfold maxLen; omega) (by omega) (by have := hX3.size; omega) ?_; intro vz wz hownwz hgrowwz hbz; obtain ⟨ac, yc, rfl⟩ := own_form hownwz; have hNe : some w2.heap.size ≠ (Value.slice a3 j c3).ownBlock := (fun e => by have := (HK3.out.row.lt _ e.symm).1; omega); have z8 := hgrowwz.cell HK3.out.vx.c8 hNe; have zf := (World.frozen?_of_block (hgrowwz.block w2.heap.size HK3.out.vx.lt hNe)).trans (HK3.out.vx.fz 8); have HGR := Lib.hid (HK3.out.more hkn hw5 HCJ.out hgrowwz hownwz hob5 hrow); clear hownwz hgrowwz hbz hNe))
        all_goals
          go_wp2_with fail
          exact ⟨⟨j + 1, _, ac, yc, by go_num, by omega, HGR⟩, by simp [intOf]; omega⟩
      · obtain rfl : j = cs.length := by omega
        go_wp2_with fail
        go_returns
        refine ⟨Or.inl ⟨w5.heap.size, w2.heap.size, cs, us, ks, a1, x1, a2, x2, a3, c3, by have := hL5.size; omega, ⟨rfl, HTX.out, HOK.out, hz, HK.out.vx, HN5.out.keep HK.out.keep (fun x hx => by subst hx; exact hV5.noStr), HK.out.row, own_base (own_keep HRC5.out HK.out.keep (fun g e q => by subst q; have := (HRC5.out.lt _ e).1; have := HWO.out; omega)) HWW.out, own_base (own_keep HRU5.out HK.out.keep (fun g e q => by subst q; have := (HRU5.out.lt _ e).1; have := HWO.out; omega)) HWW.out, HK.out.len, fun i c hc => HK.out.kid i c hc (List.getElem?_eq_some_iff.1 hc).1⟩⟩, hL5.trans (HK.out.keep.below hL5.size (fun x hx => by subst hx; exact hz))⟩
  · go_upto_region 12 with (fail)
    obtain ⟨w5, hw5⟩ : ∃ w5, w5 = (w4.setCell ⟨w2.heap.size, 6, none⟩ (.slice none 0 0)).setCell ⟨w2.heap.size, 7, none⟩ (.slice none 0 0) := ⟨_, rfl⟩
    have hV5 : VxAt w5 w2.heap.size true pa pg ps true (.slice none 0 0) (.slice none 0 0) (.slice none 0 0) (.slice none 0 0) := by rw [hw5]; exact hV4.putN _ _
    have hL5 : Below w.heap.size w w5 := by rw [hw5]; exact (hLB.out.setCell (p := ⟨w2.heap.size, 6, none⟩) hz _).setCell (p := ⟨w2.heap.size, 7, none⟩) hz _
    rw [← hw5]
    clear hw5 v6 v7 f6 f7
    have v6 := hV5.c6
    go_wp2_with fail
    go_loopw [78] (fun i wr => i = .int .i64 0 ∧ wr = w5) (fun _ _ => 0)
    case atStart => exact ⟨rfl, rfl⟩
    case round =>
      obtain ⟨rfl, rfl⟩ := hrel
      go_wp2_with fail
      go_returns
      exact ⟨Or.inr ⟨hno, rfl⟩, hL5⟩

end Go.Proofs.YtafciefjlkdecaaGreat
