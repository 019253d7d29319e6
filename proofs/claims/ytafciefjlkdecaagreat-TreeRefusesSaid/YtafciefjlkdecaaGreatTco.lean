/-
  The walks of a commit of a tree of one leaf: the saver's vertex, Commit.
-/
import Derived.Test.YtafciefjlkdecaaGreatTre
import Derived.Test.YtafciefjlkdecaaGreatTsh
import Derived.Test.YtafciefjlkdecaaGreatSrt
namespace Go.Proofs.YtafciefjlkdecaaGreat
open Go.RowKit
attribute [local go_sem ↓] Go.wp_at_zero Go.wp_at_succ

theorem keep_cell {S : Nat → Prop} {w w' : World} {p : Addr} {v : Value} (h : Keep S w w') (hp : w.cell? p = some v) (hs : ¬ S p.block) : w'.cell? p = some v :=
  (World.cell?_of_block (h.block p.block (World.block_lt_of_cell? w p hp) hs)).trans hp
theorem keep_fz {S : Nat → Prop} {w w' : World} {p : Addr} {f : Bool} (h : Keep S w w') (hp : w.frozen? p = f) (hl : p.block < w.heap.size) (hs : ¬ S p.block) : w'.frozen? p = f :=
  (World.frozen?_of_block (h.block p.block hl hs)).trans hp

theorem save_eq (fn : Fn) (xs ys : Array Value) (w : World) : (binOp BinOp.eql 117 (.func fn xs ys) .nilFunc).run Tryz.prog w = .ok (.bool false) w := by
  kernel_rfl

/-- A row, as what a walk carries on. -/
structure RwAt (w : World) (E : TypeId) (b : Nat) (cur : List Value) : Prop where
  row : RowIs w E b cur
theorem RwAt.on {w w' : World} {E : TypeId} {b : Nat} {cur : List Value} (h : RwAt w E b cur) (hb : Below w.heap.size w w') : RwAt w' E b cur := ⟨h.row.on hb⟩
theorem RwAt.kept {w w' : World} {E : TypeId} {b : Nat} {cur : List Value} {B : Nat} (h : RwAt w E b cur) (hb : Below B w w') (hB : w.heap.size ≤ B) : RwAt w' E b cur := h.on (hb.mono hB)
theorem RwAt.keep {S : Nat → Prop} {w w' : World} {E : TypeId} {b : Nat} {cur : List Value} (h : RwAt w E b cur) (hk : Keep S w w') (hs : ¬ S b) : RwAt w' E b cur := ⟨hk.row h.row hs⟩
theorem RwAt.cell {w : World} {E : TypeId} {b : Nat} {cur : List Value} (h : RwAt w E b cur) (i : Nat) : w.cell? ⟨b, i, none⟩ = cur[i]? := h.row.cell i
theorem RwAt.fz {w : World} {E : TypeId} {b : Nat} {cur : List Value} (h : RwAt w E b cur) (i : Nat) : w.frozen? ⟨b, i, none⟩ = false := h.row.frozen i

/-- A saver: how it saves, and its map. -/
structure SvAt (w : World) (vb : Nat) (fv : Value) (db : Nat) : Prop where
  row : RowIs w 121 vb [fv, .map (some db)]
section
variable {w w' : World} {vb db : Nat} {fv : Value}
theorem SvAt.on (h : SvAt w vb fv db) (hb : Below w.heap.size w w') : SvAt w' vb fv db := ⟨h.row.on hb⟩
theorem SvAt.kept {B : Nat} (h : SvAt w vb fv db) (hb : Below B w w') (hB : w.heap.size ≤ B) : SvAt w' vb fv db := h.on (hb.mono hB)
theorem SvAt.c0 (h : SvAt w vb fv db) : w.cell? ⟨vb, 0, none⟩ = some fv := h.row.cell 0
theorem SvAt.c1 (h : SvAt w vb fv db) : w.cell? ⟨vb, 1, none⟩ = some (.map (some db)) := h.row.cell 1
end

set_option maxRecDepth 100000 in
set_option maxHeartbeats 4000000 in
/-- A dirty leaf is saved. -/
theorem saver_leaf {vb db b sb mb nn sz : Nat} {f : Int → Option Blk} {gen : Nat} {wrong : Int} {cl : Nat} {pa : Int} {pg ps : Nat} {ld : Bool} {a : Option Addr} {n c : Nat} {cs us : Value} {es : List Ent} (at' : Nat) (w : World)
    (hs0 : SvAt w vb (.func (.func 20) #[.pointer (some ⟨sb, 0, none⟩)] #[]) db) (hd : w.heap[db]? = some (.map #[] cl))
    (hv : VxAt w b false pa pg ps ld (.slice a n c) cs us (.slice none 0 0)) (hb : BoxE w (.agg #[.slice a n c]) es) (hn : n = es.length) (hl : es.length ≤ 10000) (hf : FineE es)
    (hsh : ShelfAt w sb mb nn sz f gen wrong) (ha : at' < 100000) (hfree : f (at' : Int) = none) (hused : ∀ j : Nat, j < at' → (f (j : Int)).isSome = true) (hnn : nn < 100000) (hg : gen < 1000000) (hdm : db ≠ mb) :
    Calls Tryz.prog 44 #[.pointer (some ⟨vb, 0, none⟩), .pointer (some ⟨b, 0, none⟩)] w fun e w' => e = .returned (.tuple #[.agg #[.int .i64 at', .int .u64 (gen + 1 : Nat), .int .u32 0], .int .i64 0]) ∧ ShelfAt w' sb mb (nn + 1) (sz + 1) (fun i => if i = (at' : Int) then some ⟨4, entText es, gen + 1⟩ else f i) (gen + 1) wrong ∧ Keep (fun x => x = sb ∨ x = mb ∨ x = db) w w' := by
  have HT := Lib.hid (fun w' h => leafText_any a n c es w' hn h hl hf)
  have HSV := Lib.hid (fun w' (h : ShelfAt w' sb mb nn sz f gen wrong) => save_any 4 (entText es) at' w' h ha hfree hused hnn hg)
  have hr := hs0.row
  have hsb : sb ≠ vb := fun e => by
    subst e
    have h1 := hsh.row
    unfold RowIs at h1 hr
    rw [h1] at hr
    simp at hr
  have hbs : b ≠ sb := fun e => by
    subst e
    have h1 := hsh.row
    have h2 := hv.row
    unfold RowIs at h1 h2
    rw [h1] at h2
    simp at h2
  obtain ⟨DD, ⟨es0, clock0, hmb, hmb2⟩, hmb3⟩ := hsh.map.own
  have hvm : vb ≠ mb := fun e => by
    subst e
    unfold RowIs at hr
    rw [hr] at hmb
    simp at hmb
  have hbm : b ≠ mb := fun e => by
    subst e
    have h2 := hv.row
    unfold RowIs at h2
    rw [h2] at hmb
    simp at hmb
  have hds : db ≠ sb := fun e => by
    subst e
    have h2 := hsh.row
    unfold RowIs at h2
    rw [h2] at hd
    simp at hd
  have hdv : db ≠ vb := fun e => by
    subst e
    unfold RowIs at hr
    rw [hr] at hd
    simp at hd
  have hdb : db ≠ b := fun e => by
    subst e
    have h2 := hv.row
    unfold RowIs at h2
    rw [h2] at hd
    simp at hd
  have HS := Lib.hid hsh
  have HB := Lib.hid hb
  have hR := Lib.hid hs0
  have hV := Lib.hid hv
  have hD := Lib.hid hd
  have hb0 := Below.refl w.heap.size w
  have hwz : b < w.heap.size := hv.lt
  have hvz : vb < w.heap.size := hr.lt
  have hdz : db < w.heap.size := by
    rcases Nat.lt_or_ge db w.heap.size with h | h
    · exact h
    · rw [Array.getElem?_eq_none h] at hd; cases hd
  have hsz' : sb < w.heap.size := hsh.row.lt
  have hmz' : mb < w.heap.size := hsh.map.lt
  clear hn hsh hb hr hs0 hv hd hmb hmb2 hmb3 hf hused hfree
  go_enter Tryz.func44, Tryz.ntmps44
  go_upto_region 1 with (fail)
  obtain ⟨W, hW⟩ : ∃ W, W = w.alloc (.cells #[.int .i64 0, .int .u64 0, .int .u32 0] 54) := ⟨_, rfl⟩
  have hG := Lib.hid (show RwAt W 54 w.heap.size [.int .i64 0, .int .u64 0, .int .u32 0] from ⟨by rw [hW]; exact RowIs.new w _ _⟩)
  have hX_W : Below w.heap.size w W := by rw [hW]; exact (Below.refl _ w).alloc (Nat.le_refl _) _
  rw [← hW]
  clear hW
  replace HS := Lib.hid (HS.out.kept hX_W (Nat.le_refl _))
  replace HB := Lib.hid (HB.out.kept hX_W (Nat.le_refl _))
  replace hV := Lib.hid (hV.out.kept hX_W (Nat.le_refl _))
  replace hR := Lib.hid (hR.out.kept hX_W (Nat.le_refl _))
  replace hb0 := hb0.trans hX_W
  clear hX_W
  have c0 := hV.out.c0
  have c5 := hV.out.c5
  have c8 := hV.out.c8
  go_wp2_with fail
  go_wp2_with fail
  refine (thread (HT.out W HB.out) W.heap.size W (Below.refl _ _) (Nat.le_refl _)).mono ?_
  rintro e w1 ⟨rfl, hX_w1, -, -, -, hz_w1⟩
  replace HS := Lib.hid (HS.out.kept hX_w1 (Nat.le_refl _))
  replace HB := Lib.hid (HB.out.kept hX_w1 (Nat.le_refl _))
  replace hV := Lib.hid (hV.out.kept hX_w1 (Nat.le_refl _))
  replace hR := Lib.hid (hR.out.kept hX_w1 (Nat.le_refl _))
  replace hG := Lib.hid (hG.out.kept hX_w1 (Nat.le_refl _))
  replace hb0 := hb0.trans (hX_w1.mono hb0.size)
  clear hX_w1
  have q0 := hR.out.c0
  go_wp2_with fail
  refine (HSV.out w1 HS.out).mono ?_
  rintro e w2 ⟨rfl, hsh2, hK2⟩
  have hws : ¬ (w.heap.size = sb ∨ w.heap.size = mb) := by omega
  have hG2 := Lib.hid (hG.out.keep hK2 hws)
  have HS2 := Lib.hid hsh2
  have hR2 := Lib.hid (show SvAt w2 vb _ db from ⟨hK2.row hR.out.row (by show ¬ (vb = sb ∨ vb = mb); omega)⟩)
  have hD2 := Lib.hid ((hK2.block db (by have := hb0.size; omega) (by show ¬ (db = sb ∨ db = mb); omega)).trans ((hb0.block db hdz).trans hD.out))
  have hK := ((Keep.of_below (S := fun x => x = sb ∨ x = mb ∨ x = db) hb0)).trans hK2 (fun x hx => Or.inl (by rcases hx with h | h; exact Or.inl h; exact Or.inr (Or.inl h)))
  clear hsh2 hK2 HS hV hR HB hG hb0 hws c0 c5 c8 q0
  go_upto_region 11 with (fail)
  obtain ⟨W3, hW3⟩ : ∃ W3, W3 = w2.alloc (.cells #[.int .i64 (at' : Int), .int .u64 ((gen : Int) + 1), .int .u32 0] 54) := ⟨_, rfl⟩
  have hX3 : Below w2.heap.size w2 W3 := by rw [hW3]; exact (Below.refl _ w2).alloc (Nat.le_refl _) _
  have hP := Lib.hid (show RwAt W3 54 w2.heap.size [.int .i64 (at' : Int), .int .u64 ((gen : Int) + 1), .int .u32 0] from ⟨by rw [hW3]; exact RowIs.new w2 _ _⟩)
  rw [← hW3]
  clear hW3
  have hG3 := Lib.hid (hG2.out.on hX3)
  have HS3 := Lib.hid (HS2.out.on hX3)
  have hR3 := Lib.hid (hR2.out.on hX3)
  have hdz2 : db < w2.heap.size := by have := hK.size; omega
  have hD3 := Lib.hid ((hX3.block db hdz2).trans hD2.out)
  have hK3 := hK.on hX3
  have hww : w.heap.size ≤ w2.heap.size := hK.size
  have hww3 : w2.heap.size ≤ W3.heap.size := hX3.size
  clear hG2 HS2 hR2 hD2 hX3 hK
  have hD4 : W3.drew.heap[db]? = some (.map #[] cl) := hD3.out
  obtain ⟨wz, hrun, hgz⟩ := ptr_first W3.drew db cl ⟨b, 0, none⟩ (.agg #[.int .i64 (at' : Int), .int .u64 ((gen : Int) + 1), .int .u32 0]) hD4
  have q1 := hR3.out.c1
  have p0 : W3.cell? ⟨w2.heap.size, 0, none⟩ = some (.int .i64 (at' : Int)) := hP.out.cell 0
  have p1 : W3.cell? ⟨w2.heap.size, 1, none⟩ = some (.int .u64 ((gen : Int) + 1)) := hP.out.cell 1
  have p2 : W3.cell? ⟨w2.heap.size, 2, none⟩ = some (.int .u32 0) := hP.out.cell 2
  go_region
  all_goals
    have hGz := Lib.hid (show RowIs wz 54 w.heap.size _ from hG3.out.row.drew.kept hgz (fun e => by have := Option.some.inj e; omega))
    have hPz := Lib.hid (show RowIs wz 54 w2.heap.size _ from hP.out.row.drew.kept hgz (fun e => by have := Option.some.inj e; omega))
    have hSz := Lib.hid (show ShelfAt wz sb mb (nn + 1) (sz + 1) _ (gen + 1) wrong from ⟨HS3.out.row.drew.kept hgz (fun e => hds (Option.some.inj e).symm), (HS3.out.map.on (below_drew' (Below.refl _ _))).kept' hgz (fun e => hdm (Option.some.inj e).symm)⟩)
    have hKz := (hK3.on (below_drew' (Below.refl _ _))).grown hgz (fun k e => Or.inl (Or.inr (Or.inr (Option.some.inj e).symm)))
    have k0 : wz.cell? ⟨w2.heap.size, 0, none⟩ = some (.int .i64 (at' : Int)) := hPz.out.cell 0
    have k1 : wz.cell? ⟨w2.heap.size, 1, none⟩ = some (.int .u64 ((gen : Int) + 1)) := hPz.out.cell 1
    have k2 : wz.cell? ⟨w2.heap.size, 2, none⟩ = some (.int .u32 0) := hPz.out.cell 2
    have kf0 := hGz.out.frozen 0
    have kf1 := hGz.out.frozen 1
    have kf2 := hGz.out.frozen 2
    have g0 : wz.cell? ⟨w.heap.size, 0, none⟩ = some (.int .i64 0) := hGz.out.cell 0
    have g1 : wz.cell? ⟨w.heap.size, 1, none⟩ = some (.int .u64 0) := hGz.out.cell 1
    have g2 : wz.cell? ⟨w.heap.size, 2, none⟩ = some (.int .u32 0) := hGz.out.cell 2
    clear hgz q1 p0 p1 p2 hD4 hG3 hP HS3 hR3 hD3 hK3
    go_wp2_with fail
    obtain ⟨ZZ, hZZ⟩ : ∃ ZZ, ZZ = ((wz.setCell ⟨w.heap.size, 0, none⟩ (.int .i64 (at' : Int))).setCell ⟨w.heap.size, 1, none⟩ (.int .u64 ((gen : Int) + 1))).setCell ⟨w.heap.size, 2, none⟩ (.int .u32 0) := ⟨_, rfl⟩
    have hrow : RowIs ZZ 54 w.heap.size [.int .i64 (at' : Int), .int .u64 ((gen : Int) + 1), .int .u32 0] := by rw [hZZ]; exact ((hGz.out.put 0 _).put 1 _).put 2 _
    have t0 : ZZ.cell? ⟨w.heap.size, 0, none⟩ = some (.int .i64 (at' : Int)) := hrow.cell 0
    have t1 : ZZ.cell? ⟨w.heap.size, 1, none⟩ = some (.int .u64 ((gen : Int) + 1)) := hrow.cell 1
    have t2 : ZZ.cell? ⟨w.heap.size, 2, none⟩ = some (.int .u32 0) := hrow.cell 2
    have hgl : wz.grownBy ZZ (some w.heap.size) := by
      rw [hZZ]
      exact ⟨rfl, rfl, rfl, by simp only [World.size_setCell]; exact Nat.le_refl _, fun k _ hk => by
        have hkw : k ≠ w.heap.size := fun e => hk (by rw [e])
        rw [Go.heap_setCell_other _ _ _ _ hkw, Go.heap_setCell_other _ _ _ _ hkw, Go.heap_setCell_other _ _ _ _ hkw]⟩
    have hsz : ShelfAt ZZ sb mb (nn + 1) (sz + 1) (fun i => if i = (at' : Int) then some ⟨4, entText es, gen + 1⟩ else f i) (gen + 1) wrong :=
      ⟨hSz.out.row.kept hgl (fun e => by have := Option.some.inj e; omega), hSz.out.map.kept' hgl (fun e => by have := Option.some.inj e; omega)⟩
    have hKf : Keep (fun x => x = sb ∨ x = mb ∨ x = db) w ZZ := hKz.grown hgl (fun k e => Or.inr (by have := Option.some.inj e; omega))
    rw [← hZZ]
    clear hZZ k0 k1 k2 kf0 kf1 kf2 hgl g0 g1 g2 hrow
    exact bodyPost_ret (v := .tuple #[.agg #[.int .i64 (at' : Int), .int .u64 ((gen : Int) + 1), .int .u32 0], .int .i64 0]) (by simp [results, Tryz.results44, go_sem, t0, t1, t2]) rfl ⟨by simp, hsz, hKf⟩

set_option maxRecDepth 100000 in
set_option maxHeartbeats 4000000 in
/-- A tree of one dirty leaf, of which nothing was gone, is committed. -/
theorem commit_leaf {tb b sb mb nn sz : Nat} {F B L : Int} {ldf : Fn} {xs ys : Array Value} {h' : Int} {fl le : Int} {f : Int → Option Blk} {gen : Nat} {wrong : Int} {pa : Int} {pg ps : Nat} {ld : Bool} {a : Option Addr} {n c : Nat} {cs us : Value} {es : List Ent} (at' : Nat) (w : World)
    (ht : TrAt w tb F B L (.func ldf xs ys) b h' (.slice none 0 0) fl le)
    (hv : VxAt w b false pa pg ps ld (.slice a n c) cs us (.slice none 0 0)) (hb : BoxE w (.agg #[.slice a n c]) es) (hn : n = es.length) (hl : es.length ≤ 10000) (hf : FineE es)
    (hsh : ShelfAt w sb mb nn sz f gen wrong) (ha : at' < 100000) (hfree : f (at' : Int) = none) (hused : ∀ j : Nat, j < at' → (f (j : Int)).isSome = true) (hnn : nn < 100000) (hg : gen < 1000000) :
    Calls Tryz.prog 19 #[.pointer (some ⟨tb, 0, none⟩), .func (.func 20) #[.pointer (some ⟨sb, 0, none⟩)] #[]] w fun e w' => e = .returned (.tuple #[.agg #[.int .i64 at', .int .u64 (gen + 1 : Nat), .int .u32 0], .slice none 0 0, .int .i64 0]) ∧ ShelfAt w' sb mb (nn + 1) (sz + 1) (fun i => if i = (at' : Int) then some ⟨4, entText es, gen + 1⟩ else f i) (gen + 1) wrong ∧
      (∃ nb, w.heap.size ≤ nb ∧ TrAt w' tb F B L (.func ldf xs ys) nb h' (.slice none 0 0) fl le ∧ VxAt w' nb true at' (gen + 1) 0 false (.slice none 0 0) (.slice none 0 0) (.slice none 0 0) (.slice none 0 0)) ∧ Keep (fun x => x = sb ∨ x = mb ∨ x = tb) w w' := by
  have HSL := Lib.hid (fun vb db w' h1 h2 h3 h4 h5 h6 => saver_leaf (vb := vb) (db := db) (b := b) (sb := sb) (mb := mb) (nn := nn) (sz := sz) (f := f) (gen := gen) (pa := pa) (pg := pg) (ps := ps) (ld := ld) (cl := 0) (a := a) (c := c) (cs := cs) (us := us) (wrong := wrong) at' w' h1 h2 h3 h4 hn hl hf h5 ha hfree hused hnn hg h6)
  have hst : sb ≠ tb := fun e => by
    subst e
    have h1 := hsh.row
    have h2 := ht.row
    unfold RowIs at h1 h2
    rw [h1] at h2
    simp at h2
  have hmt : mb ≠ tb := fun e => by
    subst e
    obtain ⟨DD, ⟨es0, clock0, hmb, hmb2⟩, hmb3⟩ := hsh.map.own
    have h2 := ht.row
    unfold RowIs at h2
    rw [h2] at hmb
    simp at hmb
  have HS := Lib.hid hsh
  have HB := Lib.hid hb
  have hT := Lib.hid ht
  have hV := Lib.hid hv
  have hwz : b < w.heap.size := hv.lt
  have htz : tb < w.heap.size := ht.lt
  have hsz' : sb < w.heap.size := hsh.row.lt
  have hmz' : mb < w.heap.size := hsh.map.lt
  clear hn hsh hb ht hv hf hused hfree
  go_enter Tryz.func19, Tryz.ntmps19
  go_upto_region 1 with (fail)
  obtain ⟨W, hW⟩ : ∃ W, W = w.alloc (.cells #[.int .i64 0, .int .u64 0, .int .u32 0] 54) := ⟨_, rfl⟩
  have hG := Lib.hid (show RwAt W 54 w.heap.size [.int .i64 0, .int .u64 0, .int .u32 0] from ⟨by rw [hW]; exact RowIs.new w _ _⟩)
  have hb0 : Below w.heap.size w W := by rw [hW]; exact (Below.refl _ w).alloc (Nat.le_refl _) _
  have hWs : W.heap.size = w.heap.size + 1 := by rw [hW]; simp
  rw [← hW]
  clear hW
  replace HS := Lib.hid (HS.out.kept hb0 (Nat.le_refl _))
  replace HB := Lib.hid (HB.out.kept hb0 (Nat.le_refl _))
  replace hV := Lib.hid (hV.out.kept hb0 (Nat.le_refl _))
  replace hT := Lib.hid (hT.out.kept hb0 (Nat.le_refl _))
  have hfe := save_eq (.func 20) #[.pointer (some ⟨sb, 0, none⟩)] #[] W
  have hmm := @run_makeMap Tryz.prog
  go_upto_region 4 with (fail)
  obtain ⟨W2, hW2⟩ : ∃ W2, W2 = (W.alloc (.map #[] 0)).alloc (.cells #[.func (.func 20) #[.pointer (some ⟨sb, 0, none⟩)] #[], .map (some (w.heap.size + 1))] 121) := ⟨_, rfl⟩
  have hX2 : Below W.heap.size W W2 := by rw [hW2]; exact ((Below.refl _ W).alloc (Nat.le_refl _) _).alloc (by simp) _
  have hd2 : W2.heap[w.heap.size + 1]? = some (.map #[] 0) := by
    rw [hW2, Below.heap_alloc _ _ _ (by simp; omega), ← hWs]
    exact World.alloc_heap_new W _
  have hsv2 := Lib.hid (show SvAt W2 (w.heap.size + 2) (.func (.func 20) #[.pointer (some ⟨sb, 0, none⟩)] #[]) (w.heap.size + 1) from ⟨by
    rw [hW2]
    exact RowIs.new' _ _ _ _ (by simp; omega)⟩)
  have hW2s : W2.heap.size = w.heap.size + 3 := by rw [hW2]; simp; omega
  rw [← hW2]
  clear hW2 hfe hmm
  have hG2 := Lib.hid (hG.out.on hX2)
  have HS2 := Lib.hid (HS.out.on hX2)
  have HB2 := Lib.hid (HB.out.kept hX2 (Nat.le_refl _))
  have hV2 := Lib.hid (hV.out.on hX2)
  have hT2 := Lib.hid (hT.out.on hX2)
  have hb2 := hb0.trans (hX2.mono (by omega))
  clear hG HS HB hV hT hb0 hX2
  have c4 := hT2.out.c4
  go_wp2_with fail
  refine (HSL.out _ _ W2 hsv2.out hd2 hV2.out HB2.out HS2.out (by omega)).mono ?_
  rintro e w3 ⟨rfl, hs3, hK3⟩
  have hG3 := Lib.hid (hG2.out.keep hK3 (by omega))
  have hT3 := Lib.hid (show TrAt w3 tb F B L (.func ldf xs ys) b h' (.slice none 0 0) fl le from ⟨hK3.row hT2.out.row (by omega)⟩)
  have HS3 := Lib.hid hs3
  have hKa := ((Keep.of_below (S := fun x => x = sb ∨ x = mb ∨ x = tb) hb2)).trans hK3 (fun x hx => by omega)
  have hw3s : w.heap.size + 3 ≤ w3.heap.size := by have := hK3.size; omega
  clear hs3 hK3 hd2 hsv2 hG2 HS2 HB2 hV2 hT2 hb2 c4
  go_upto_region 5 with (fail)
  obtain ⟨W4, hW4⟩ : ∃ W4, W4 = w3.alloc (.cells #[.int .i64 (at' : Int), .int .u64 ((gen : Int) + 1), .int .u32 0] 54) := ⟨_, rfl⟩
  have hX4 : Below w3.heap.size w3 W4 := by rw [hW4]; exact (Below.refl _ w3).alloc (Nat.le_refl _) _
  have hP4 := Lib.hid (show RwAt W4 54 w3.heap.size [.int .i64 (at' : Int), .int .u64 ((gen : Int) + 1), .int .u32 0] from ⟨by rw [hW4]; exact RowIs.new w3 _ _⟩)
  have hW4s : w3.heap.size + 1 ≤ W4.heap.size := by rw [hW4]; simp
  rw [← hW4]
  clear hW4
  have hG4 := Lib.hid (hG3.out.on hX4)
  have hT4 := Lib.hid (hT3.out.on hX4)
  have HS4 := Lib.hid (HS3.out.on hX4)
  have hK4 := hKa.on hX4
  clear hG3 hT3 HS3 hKa hX4
  have c6 := hT4.out.c6
  go_wp2_with fail
  refine (values_any none 0 0 W4).mono ?_
  rintro e w5 ⟨rfl, rfl⟩
  go_wp2_with fail
  refine (sorted_nil W4).mono ?_
  rintro e w6 ⟨rfl, hX6⟩
  have hG6 := Lib.hid (hG4.out.on hX6)
  have hT6 := Lib.hid (hT4.out.on hX6)
  have HS6 := Lib.hid (HS4.out.on hX6)
  have hP6 := Lib.hid (hP4.out.on hX6)
  have hK6 := hK4.on hX6
  have hw6 : w3.heap.size + 1 ≤ w6.heap.size := by have := hX6.size; omega
  clear hG4 hT4 HS4 hP4 hK4 hX6 c6
  have tf4 := hT6.out.fz 4
  have tf6 := hT6.out.fz 6
  have c6 := hT6.out.c6
  have c4 := hT6.out.c4
  have p0 : w6.cell? ⟨w3.heap.size, 0, none⟩ = some (.int .i64 (at' : Int)) := hP6.out.cell 0
  have p1 : w6.cell? ⟨w3.heap.size, 1, none⟩ = some (.int .u64 ((gen : Int) + 1)) := hP6.out.cell 1
  have p2 : w6.cell? ⟨w3.heap.size, 2, none⟩ = some (.int .u32 0) := hP6.out.cell 2
  have g0 := hG6.out.cell 0
  have g1 := hG6.out.cell 1
  have g2 := hG6.out.cell 2
  have gf0 := hG6.out.fz 0
  have gf1 := hG6.out.fz 1
  have gf2 := hG6.out.fz 2
  have hnt : w3.heap.size ≠ tb := by omega
  go_upto_region 9 with (fail)
  obtain ⟨W8, hW8⟩ : ∃ W8, W8 = w6.setCell ⟨tb, 6, none⟩ (.slice none 0 0) := ⟨_, rfl⟩
  have hT8 := Lib.hid (show TrAt W8 tb F B L (.func ldf xs ys) b h' (.slice none 0 0) fl le from ⟨by rw [hW8]; exact hT6.out.row.put 6 _⟩)
  have hP8 := Lib.hid (show RowIs W8 54 w3.heap.size [.int .i64 (at' : Int), .int .u64 ((gen : Int) + 1), .int .u32 0] by rw [hW8]; exact hP6.out.row.far _ hnt _)
  have hG8 := Lib.hid (show RowIs W8 54 w.heap.size [.int .i64 0, .int .u64 0, .int .u32 0] by rw [hW8]; exact hG6.out.row.far _ (by show w.heap.size ≠ tb; omega) _)
  have hg8 : w6.grownBy W8 (some tb) := by
    rw [hW8]
    exact ⟨rfl, rfl, rfl, by rw [World.size_setCell]; exact Nat.le_refl _, fun k _ hk => Go.heap_setCell_other _ _ _ _ (fun e => hk (by rw [e]))⟩
  have HS8 := Lib.hid (show ShelfAt W8 sb mb (nn + 1) (sz + 1) _ (gen + 1) wrong from ⟨HS6.out.row.kept hg8 (fun e => hst (Option.some.inj e)), HS6.out.map.kept' hg8 (fun e => hmt (Option.some.inj e))⟩)
  have hK8 : Keep (fun x => x = sb ∨ x = mb ∨ x = tb) w W8 := hK6.grown hg8 (fun k e => Or.inl (Or.inr (Or.inr (Option.some.inj e).symm)))
  have hw8 : w3.heap.size + 1 ≤ W8.heap.size := by have := hg8.size; omega
  rw [← hW8]
  clear hW8 hg8 hT6 hP6 hG6 HS6 hK6 p0 p1 p2 g0 g1 g2 gf0 gf1 gf2 tf4 tf6 c6 c4
  have htz8 : tb < W8.heap.size := by omega
  have p0 : W8.cell? ⟨w3.heap.size, 0, none⟩ = some (.int .i64 (at' : Int)) := hP8.out.cell 0
  have p1 : W8.cell? ⟨w3.heap.size, 1, none⟩ = some (.int .u64 ((gen : Int) + 1)) := hP8.out.cell 1
  have p2 : W8.cell? ⟨w3.heap.size, 2, none⟩ = some (.int .u32 0) := hP8.out.cell 2
  have e4 : ∀ x, (W8.alloc x).cell? ⟨tb, 4, none⟩ = some (.pointer (some ⟨b, 0, none⟩)) := fun x => (World.cell?_alloc_past _ _ _ htz8).trans hT8.out.c4
  have ef4 : ∀ x, (W8.alloc x).frozen? ⟨tb, 4, none⟩ = false := fun x => by rw [World.frozen?_alloc_past _ _ _ htz8]; exact hT8.out.fz 4
  go_upto_region 10 with (fail)
  obtain ⟨W9, hW9⟩ : ∃ W9, W9 = (W8.setCell ⟨tb, 4, none⟩ (.pointer (some ⟨W8.heap.size, 0, none⟩))).alloc (.cells #[.bool true, .int .i64 (at' : Int), .int .u64 ((gen : Int) + 1), .int .u32 0, .bool false, .slice none 0 0, .slice none 0 0, .slice none 0 0, .slice none 0 0] 108) := ⟨_, rfl⟩
  have hg9 : W8.grownBy W9 (some tb) := by
    rw [hW9]
    exact ⟨rfl, rfl, rfl, by simp, fun k hk hk2 => (Below.heap_alloc _ _ k (by simpa using hk)).trans (Go.heap_setCell_other _ _ _ _ (fun e => hk2 (by rw [e])))⟩
  have hT9 := Lib.hid (show TrAt W9 tb F B L (.func ldf xs ys) W8.heap.size h' (.slice none 0 0) fl le from ⟨by
    rw [hW9]
    exact RowIs.on (show RowIs (W8.setCell ⟨tb, 4, none⟩ (.pointer (some ⟨W8.heap.size, 0, none⟩))) _ tb _ from hT8.out.row.put 4 _) ((Below.refl _ _).alloc (Nat.le_refl _) _)⟩)
  have hV9 := Lib.hid (show VxAt W9 W8.heap.size true at' (gen + 1) 0 false (.slice none 0 0) (.slice none 0 0) (.slice none 0 0) (.slice none 0 0) from ⟨by
    rw [hW9]
    exact RowIs.new' _ _ _ _ (by simp)⟩)
  have hP9 := Lib.hid (show RowIs W9 54 w3.heap.size _ from hP8.out.kept hg9 (fun e => hnt (Option.some.inj e)))
  have hG9 := Lib.hid (show RowIs W9 54 w.heap.size _ from hG8.out.kept hg9 (fun e => by have := Option.some.inj e; omega))
  have HS9 := Lib.hid (show ShelfAt W9 sb mb (nn + 1) (sz + 1) _ (gen + 1) wrong from ⟨HS8.out.row.kept hg9 (fun e => hst (Option.some.inj e)), HS8.out.map.kept' hg9 (fun e => hmt (Option.some.inj e))⟩)
  have hK9 : Keep (fun x => x = sb ∨ x = mb ∨ x = tb) w W9 := hK8.grown hg9 (fun k e => Or.inl (Or.inr (Or.inr (Option.some.inj e).symm)))
  have hw9 : W8.heap.size < W9.heap.size := hV9.out.lt
  have hw89 : w.heap.size ≤ W8.heap.size := by omega
  rw [← hW9]
  clear hW9 hg9 hT8 hP8 hG8 HS8 hK8 p0 p1 p2 e4 ef4
  have p0 : W9.cell? ⟨w3.heap.size, 0, none⟩ = some (.int .i64 (at' : Int)) := hP9.out.cell 0
  have p1 : W9.cell? ⟨w3.heap.size, 1, none⟩ = some (.int .u64 ((gen : Int) + 1)) := hP9.out.cell 1
  have p2 : W9.cell? ⟨w3.heap.size, 2, none⟩ = some (.int .u32 0) := hP9.out.cell 2
  have kf0 := hG9.out.frozen 0
  have kf1 := hG9.out.frozen 1
  have kf2 := hG9.out.frozen 2
  have g0 : W9.cell? ⟨w.heap.size, 0, none⟩ = some (.int .i64 0) := hG9.out.cell 0
  have g1 : W9.cell? ⟨w.heap.size, 1, none⟩ = some (.int .u64 0) := hG9.out.cell 1
  have g2 : W9.cell? ⟨w.heap.size, 2, none⟩ = some (.int .u32 0) := hG9.out.cell 2
  go_wp2_with fail
  obtain ⟨ZZ, hZZ⟩ : ∃ ZZ, ZZ = ((W9.setCell ⟨w.heap.size, 0, none⟩ (.int .i64 (at' : Int))).setCell ⟨w.heap.size, 1, none⟩ (.int .u64 ((gen : Int) + 1))).setCell ⟨w.heap.size, 2, none⟩ (.int .u32 0) := ⟨_, rfl⟩
  have hrow : RowIs ZZ 54 w.heap.size [.int .i64 (at' : Int), .int .u64 ((gen : Int) + 1), .int .u32 0] := by rw [hZZ]; exact ((hG9.out.put 0 _).put 1 _).put 2 _
  have t0 : ZZ.cell? ⟨w.heap.size, 0, none⟩ = some (.int .i64 (at' : Int)) := hrow.cell 0
  have t1 : ZZ.cell? ⟨w.heap.size, 1, none⟩ = some (.int .u64 ((gen : Int) + 1)) := hrow.cell 1
  have t2 : ZZ.cell? ⟨w.heap.size, 2, none⟩ = some (.int .u32 0) := hrow.cell 2
  have hgl : W9.grownBy ZZ (some w.heap.size) := by
    rw [hZZ]
    exact ⟨rfl, rfl, rfl, by simp only [World.size_setCell]; exact Nat.le_refl _, fun k _ hk => by
      have hkw : k ≠ w.heap.size := fun e => hk (by rw [e])
      rw [Go.heap_setCell_other _ _ _ _ hkw, Go.heap_setCell_other _ _ _ _ hkw, Go.heap_setCell_other _ _ _ _ hkw]⟩
  have hsz : ShelfAt ZZ sb mb (nn + 1) (sz + 1) (fun i => if i = (at' : Int) then some ⟨4, entText es, gen + 1⟩ else f i) (gen + 1) wrong :=
    ⟨HS9.out.row.kept hgl (fun e => by have := Option.some.inj e; omega), HS9.out.map.kept' hgl (fun e => by have := Option.some.inj e; omega)⟩
  have hTz : TrAt ZZ tb F B L (.func ldf xs ys) W8.heap.size h' (.slice none 0 0) fl le := ⟨hT9.out.row.kept hgl (fun e => by have := Option.some.inj e; omega)⟩
  have hVz : VxAt ZZ W8.heap.size true at' (gen + 1) 0 false (.slice none 0 0) (.slice none 0 0) (.slice none 0 0) (.slice none 0 0) := ⟨hV9.out.row.kept hgl (fun e => by have := Option.some.inj e; omega)⟩
  have hKf : Keep (fun x => x = sb ∨ x = mb ∨ x = tb) w ZZ := hK9.grown hgl (fun k e => Or.inr (by have := Option.some.inj e; omega))
  rw [← hZZ]
  clear hZZ p0 p1 p2 kf0 kf1 kf2 hgl g0 g1 g2 hrow
  exact bodyPost_ret (v := .tuple #[.agg #[.int .i64 (at' : Int), .int .u64 ((gen : Int) + 1), .int .u32 0], .slice none 0 0, .int .i64 0]) (by simp [results, Tryz.results19, go_sem, t0, t1, t2]) rfl ⟨by simp, hsz, ⟨_, hw89, hTz, hVz⟩, hKf⟩

end Go.Proofs.YtafciefjlkdecaaGreat
