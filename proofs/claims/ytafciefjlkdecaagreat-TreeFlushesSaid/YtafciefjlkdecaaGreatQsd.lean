/-
  The walks of node.child and node.Parse. What stays where only some blocks turn: rows that hold texts. Trees in plain words: vertices, what they have, what may be. Trees in plain words: messages that are given to a vertex; a child in another's place. Trees in plain words: what is done to a vertex; it has what it had. Trees in plain words: parts and halves; each step keeps what may be, and what is. A shelf's map of blocks, by their addresses: what it tells, and what a store makes of it. A map by pointers that is only written. Trees in plain words: what is left to do; which blocks are known. Trees in plain words: which blocks are known, and gone; a root that rises. Which child is handed messages: plain laws. The entries that a scan tells, in plain words. The walk of fetch, of a node. The walks of the laws' shelf: load, save. Trees in memory: where vertices lie, what stays where others turn. The walk of the laws' load, also one that fails. The walk of fetch over any load. A vertex of a tree is fetched.
-/
import Derived.Maps.OwnOps
import Derived.Maps.OwnSet
import Derived.Shelf.Abstract
import Derived.Deep.DeepCutAuto
import Derived.Deep.CutBlock
import Derived.Deep.Cut
import Derived.Deep.RegionHeld3
import Derived.BigQuiet
import Derived.Test.YtafciefjlkdecaaGreatQsc
set_option maxRecDepth 100000
set_option maxHeartbeats 16000000
namespace Go.Proofs.YtafciefjlkdecaaGreat
open Go.RowKit
attribute [local go_sem ↓] Go.wp_at_zero Go.wp_at_succ
abbrev ChV (low : List UInt8) (a : Int) (g s : Nat) : Value := .agg #[.string (S low), .int .i64 a, .int .u64 g, .int .u32 s]
inductive ChRes (s0 : List UInt8) (v : Value) : Prop
 | yes (c : Chd) (rest : List UInt8) (h1 : ChdIs c) (h2 : Placed c.addr) (h3 : s0 = chT c ++ rest) (h4 : v = .tuple #[ChV c.low c.addr c.gen c.sum, .string (S rest), .bool true])
 | no (h : ∀ c rest, ChdIs c → Placed c.addr → s0 ≠ chT c ++ rest) (low : List UInt8) (a : Int) (g s : Nat) (r : List UInt8) (h4 : v = .tuple #[ChV low a g s, .string (S r), .bool false])
theorem splitL_no {s0 : List UInt8} (h : (splitL s0).2.2 = false) (c : Chd) (rest : List UInt8) (hc : ChdIs c) : s0 ≠ chT c ++ rest := fun e => by
 have h1 := splitL_join c.low (ptrL c.addr.toNat c.gen c.sum ++ rest) hc.low
 rw [e] at h
 unfold chT at h
 rw [List.append_assoc, h1] at h
 exact absurd h (by simp)
theorem childP_any (s0 : List UInt8) (w : World) (hl : s0.length ≤ 1000000) :
  Calls Tryz.prog 115 #[.string (S s0)] w fun e w' => (∃ v, e = .returned v ∧ ChRes s0 v) ∧ Below w.heap.size w w' := by
 have HS := Lib.hid (fun w => split_any s0 hl w)
 have HNO := Lib.hid (@splitL_no s0)
 have HOF := Lib.hid (@splitL_of s0)
 have htl : (splitL s0).2.1.length ≤ 1000000 := by have := (splitL_len s0).1; omega
 have hsv : splitV s0 = .tuple #[.string (S (splitL s0).1), .string (S (splitL s0).2.1), .bool (splitL s0).2.2] := rfl
 rw [hsv] at HS
 clear hsv
 generalize (splitL s0).1 = f at *
 generalize (splitL s0).2.1 = t at *
 generalize (splitL s0).2.2 = o at *
 have HPP := Lib.hid (fun w => parsePtr_any t w htl)
 go_enter Tryz.func115, Tryz.ntmps115
 go_upto_region 1 with (fail)
 have hX : Below w.heap.size w (w.alloc (.cells #[.string ⟨#[]⟩, .int .i64 0, .int .u64 0, .int .u32 0] 179)) := by go_grown
 have HC := Lib.hid (show (w.alloc (.cells #[.string ⟨#[]⟩, .int .i64 0, .int .u64 0, .int .u32 0] 179)).cell? ⟨w.heap.size, 0, none⟩ = some (.string ⟨#[]⟩) ∧ (w.alloc (.cells #[.string ⟨#[]⟩, .int .i64 0, .int .u64 0, .int .u32 0] 179)).cell? ⟨w.heap.size, 1, none⟩ = some (.int .i64 0) ∧ (w.alloc (.cells #[.string ⟨#[]⟩, .int .i64 0, .int .u64 0, .int .u32 0] 179)).cell? ⟨w.heap.size, 2, none⟩ = some (.int .u64 0) ∧ (w.alloc (.cells #[.string ⟨#[]⟩, .int .i64 0, .int .u64 0, .int .u32 0] 179)).cell? ⟨w.heap.size, 3, none⟩ = some (.int .u32 0) by refine ⟨?_, ?_, ?_, ?_⟩ <;> (rw [World.cell?_alloc_at _ _ _ _ rfl]; rfl))
 have HG := Lib.hid (show ∀ o, (w.alloc (.cells #[.string ⟨#[]⟩, .int .i64 0, .int .u64 0, .int .u32 0] 179)).frozen? ⟨w.heap.size, o, none⟩ = false from fun o => World.frozen?_alloc_at _ _ _ _ rfl)
 obtain ⟨W, hW⟩ : ∃ W, W = w.alloc (.cells #[.string ⟨#[]⟩, .int .i64 0, .int .u64 0, .int .u32 0] 179) := ⟨_, rfl⟩
 have hWz : W.heap.size = w.heap.size + 1 := by rw [hW]; simp
 rw [← hW] at hX HC HG ⊢
 clear hW
 go_wp2_with fail
 refine (HS.out W).mono ?_
 rintro e w1 ⟨rfl, hB1⟩
 go_wp2_with fail
 refine (HPP.out w1).mono ?_
 rintro e w2 ⟨hcase, hB2⟩
 have hBW := hB1.trans (hB2.mono hB1.size)
 have HL := Lib.hid (hX.trans (hBW.mono hX.size))
 obtain ⟨k0, k1, k2, k3⟩ := HC.out
 have HZ := Lib.hid (And.intro (kept_cell hBW k0) (And.intro (kept_cell hBW k1) (And.intro (kept_cell hBW k2) (kept_cell hBW k3))))
 have HZG := Lib.hid (fun o => ((bcell hBW).2 w.heap.size o (by omega)).trans (HG.out o))
 have hw2 : w.heap.size < w2.heap.size := by have := hB1.size; have := hB2.size; omega
 clear hB1 hB2 hBW hX HC HG k0 k1 k2 k3 hWz HS HPP
 have hu : ∃ (A : Int) (g s : Nat) (rest : List UInt8) (P : Bool), e = .returned (.tuple #[.agg #[.int .i64 A, .int .u64 g, .int .u32 s], .string (S rest), .bool P]) ∧ ChRes s0 (.tuple #[ChV f A g s, .string (S rest), .bool (o && P)]) := by
  rcases hcase with ⟨a, g, s, rest, ha, hg, hs, hst, he⟩ | ⟨hno, he⟩
  ·refine ⟨a, g, s, rest, true, he, ?_⟩
   cases o with
   | true =>
    obtain ⟨h1, h2⟩ := HOF.out rfl
    exact .yes ⟨f, a, g, s⟩ rest ⟨h2, ⟨by show (0 : Int) ≤ (a : Int); omega, by show (a : Int) < 4294967296; omega⟩, hg, hs⟩ ⟨by show (0 : Int) ≤ (a : Int); omega, by show (a : Int) ≤ 2147483647; omega⟩ (by rw [h1, hst]; unfold chT; simp) rfl
   | false => exact .no (fun c rest' hc _ => HNO.out rfl c rest' hc) f a g s rest rfl
  ·refine ⟨0, 0, 0, [], false, he, .no (fun c rest' hc hp hes => ?_) f 0 0 0 [] (by simp)⟩
   cases o with
   | true =>
    obtain ⟨h1, h2⟩ := HOF.out rfl
    rw [h1] at hes
    unfold chT at hes
    rw [List.append_assoc] at hes
    have e1 := splitL_join f t h2
    rw [hes, splitL_join _ _ hc.low] at e1
    simp only [Prod.mk.injEq, and_true] at e1
    have a1 := hp.1
    have a2 := hp.2
    exact hno c.addr.toNat c.gen c.sum rest' (by omega) hc.gen hc.sum e1.2.symm
   | false => exact HNO.out rfl c rest' hc hes
 obtain ⟨A, g, s, rest, P, rfl, hres⟩ := hu
 have HRES := Lib.hid hres
 clear hcase hres HNO HOF
 cases o
 all_goals
  obtain ⟨z0, z1, z2, z3⟩ := HZ.out
  have g0 := HZG.out 0
  have g1 := HZG.out 1
  have g2 := HZG.out 2
  have g3 := HZG.out 3
  go_upto_region 3 with (fail)
  have hX2 : Below w2.heap.size w2 (w2.alloc (.cells #[.int .i64 A, .int .u64 g, .int .u32 s] 54)) := by go_grown
  have y0 := kept_cell hX2 z0
  have y1 := kept_cell hX2 z1
  have y2 := kept_cell hX2 z2
  have y3 := kept_cell hX2 z3
  go_wp2_with fail
  obtain ⟨s1, -, s3, -, s5⟩ := setL_spec (b := w.heap.size) [.string (S f), .int .i64 A, .int .u64 g, .int .u32 s] 0 w2 (fun i hi => by
   rcases i with _ | _ | _ | _ | i
   ·exact ⟨_, z0⟩
   ·exact ⟨_, z1⟩
   ·exact ⟨_, z2⟩
   ·exact ⟨_, z3⟩
   ·simp at hi; omega)
  have hZ : setL w2 w.heap.size 0 [.string (S f), .int .i64 A, .int .u64 g, .int .u32 s] = (((w2.setCell ⟨w.heap.size, 0, none⟩ (.string (S f))).setCell ⟨w.heap.size, 1, none⟩ (.int .i64 A)).setCell ⟨w.heap.size, 2, none⟩ (.int .u64 g)).setCell ⟨w.heap.size, 3, none⟩ (.int .u32 s) := rfl
  have t0 := s1 0 _ rfl
  have t1 := s1 1 _ rfl
  have t2 := s1 2 _ rfl
  have t3 := s1 3 _ rfl
  have t5 := s5 _ _ HL.out (Nat.le_refl _)
  simp only [Nat.zero_add] at t0 t1 t2 t3
  rw [← hZ]
  generalize setL w2 w.heap.size 0 [.string (S f), .int .i64 A, .int .u64 g, .int .u32 s] = Z at *
  have hres := HRES.out
  simp only [Bool.false_and, Bool.true_and] at hres
  have hT := t5.alloc (by omega) (.cells #[.int .i64 A, .int .u64 g, .int .u32 s] 54)
  have t0 := cell_past (.cells #[.int .i64 A, .int .u64 g, .int .u32 s] 54) t0
  have t1 := cell_past (.cells #[.int .i64 A, .int .u64 g, .int .u32 s] 54) t1
  have t2 := cell_past (.cells #[.int .i64 A, .int .u64 g, .int .u32 s] 54) t2
  have t3 := cell_past (.cells #[.int .i64 A, .int .u64 g, .int .u32 s] 54) t3
  generalize Z.alloc (.cells #[.int .i64 A, .int .u64 g, .int .u32 s] 54) = ZZ at *
  first
   | exact bodyPost_ret (v := .tuple #[ChV f A g s, .string (S rest), .bool false]) (by simp [results, Tryz.results115, go_sem, t0, t1, t2, t3]) rfl ⟨⟨_, rfl, hres⟩, hT⟩
   | exact bodyPost_ret (v := .tuple #[ChV f A g s, .string (S rest), .bool P]) (by simp [results, Tryz.results115, go_sem, t0, t1, t2, t3]) rfl ⟨⟨_, rfl, hres⟩, hT⟩
theorem set2 {w : World} {b : Nat} {x0 x1 : Value} (y0 y1 : Value) (r0 : w.cell? ⟨b, 0, none⟩ = some x0) (r1 : w.cell? ⟨b, 1, none⟩ = some x1) {Z : World} (hZ : Z = (w.setCell ⟨b, 0, none⟩ y0).setCell ⟨b, 1, none⟩ y1) :
  Z.cell? ⟨b, 0, none⟩ = some y0 ∧ Z.cell? ⟨b, 1, none⟩ = some y1 ∧ ∀ B w0, Below B w0 w → B ≤ b → Below B w0 Z := by
 subst hZ
 refine ⟨?_, ?_, fun B w0 hb hB => (hb.setCell (p := ⟨b, 0, none⟩) hB _).setCell (p := ⟨b, 1, none⟩) hB _⟩
 ·rw [World.cell?_setCell_other _ _ _ _ (addr_ne (Or.inr (by decide)))]; exact World.cell?_setCell_same _ _ _ r0
 ·exact World.cell?_setCell_same _ _ _ ((World.cell?_setCell_other _ _ _ _ (addr_ne (Or.inr (by decide)))).trans r1)
structure ParAt (E : TypeId) (w0 w : World) (p N : Nat) (cs : List Chd) (a : Option Addr) (y : Nat) : Prop where
 c0 : w.cell? ⟨N, 0, none⟩ = some (.slice a cs.length y)
 c1 : w.cell? ⟨N, 1, none⟩ = some (.slice none 0 0)
 fz : ∀ o, w.frozen? ⟨N, o, none⟩ = false
 r0 : w.cell? ⟨p, 0, none⟩ = some (.slice none 0 0)
 r1 : w.cell? ⟨p, 1, none⟩ = some (.slice none 0 0)
 rz : ∀ o, w.frozen? ⟨p, o, none⟩ = false
 own : w.ownsRow (N + 1) E 4 (.slice a cs.length y) cs.length (cellsC cs)
 below : Below p w0 w
 lt : p < N
theorem ParAt.ltN {E : TypeId} {w0 w : World} {p N : Nat} {cs : List Chd} {a : Option Addr} {y : Nat} (h : ParAt E w0 w p N cs a y) : N < w.heap.size := World.block_lt_of_cell? w _ h.c0
theorem ParAt.on {E : TypeId} {w0 w w' : World} {p N : Nat} {cs : List Chd} {a : Option Addr} {y : Nat} (h : ParAt E w0 w p N cs a y) (hb : Below w.heap.size w w') : ParAt E w0 w' p N cs a y :=
 ⟨kept_cell hb h.c0, kept_cell hb h.c1, fun o => ((bcell hb).2 _ o h.ltN).trans (h.fz o), kept_cell hb h.r0, kept_cell hb h.r1, fun o => ((bcell hb).2 _ o (Nat.lt_trans h.lt h.ltN)).trans (h.rz o), own_below h.own hb, h.below.trans (hb.mono (Nat.le_of_lt (Nat.lt_trans h.lt h.ltN))), h.lt⟩
theorem ParAt.grown {E : TypeId} {w0 w w' : World} {p N : Nat} {cs cs' : List Chd} {a a' : Option Addr} {y y' : Nat} (h : ParAt E w0 w p N cs a y) (hg : w.grownBy w' (Value.slice a cs.length y).ownBlock) (ho : w'.ownsRow (N + 1) E 4 (.slice a' cs'.length y') cs'.length (cellsC cs')) :
  ParAt E w0 (w'.setCell ⟨N, 0, none⟩ (.slice a' cs'.length y')) p N cs' a' y' := by
 have eN : some N ≠ (Value.slice a cs.length y).ownBlock := fun e => by have := (h.own.lt N e.symm).1; omega
 have ep : some p ≠ (Value.slice a cs.length y).ownBlock := fun e => by have := (h.own.lt p e.symm).1; have := h.lt; omega
 have hN := h.ltN
 have hp := h.lt
 refine ⟨World.cell?_setCell_same _ _ _ (hg.cell h.c0 eN), ?_, fun o => ?_, ?_, ?_, fun o => ?_, ?_, ?_, h.lt⟩
 ·rw [World.cell?_setCell_other _ _ _ _ (addr_ne (Or.inr (by decide)))]; exact hg.cell h.c1 eN
 ·rw [World.frozen?_setCell]; exact (World.frozen?_of_block (hg.block N hN eN)).trans (h.fz o)
 ·rw [World.cell?_setCell_other _ _ _ _ (addr_ne (Or.inl (by omega)))]; exact hg.cell h.r0 ep
 ·rw [World.cell?_setCell_other _ _ _ _ (addr_ne (Or.inl (by omega)))]; exact hg.cell h.r1 ep
 ·rw [World.frozen?_setCell]; exact (World.frozen?_of_block (hg.block p (by omega) ep)).trans (h.rz o)
 ·exact ownsRow_setCell_other (a := ⟨N, 0, none⟩) ho (fun e => by have := (ho.lt N e).1; omega) _
 ·exact (below_grown h.below hg (fun k e => by have := (h.own.lt k e).1; omega) (by omega)).setCell (p := ⟨N, 0, none⟩) (Nat.le_of_lt hp) _
inductive NodeRes (B : Nat) (s0 : List UInt8) (w' : World) (ev : Int → Value) (e : Ending) : Prop
 | yes (cs : List Chd) (us : List Upd) (v : Value) (h1 : s0 = textN cs us) (h2 : NodeOk cs us) (h3 : e = .returned (.tuple #[v, ev 0])) (h4 : NodeAt w' v cs us) (h5 : ∃ a y b z, v = .agg #[.slice a cs.length y, .slice b us.length z] ∧ w'.ownsRow B 179 4 (.slice a cs.length y) cs.length (cellsC cs) ∧ w'.ownsRow B 39 4 (.slice b us.length z) us.length (cellsU us))
 | no (h : ∀ cs us, NodeOk cs us → s0 ≠ textN cs us) (h3 : e = .returned (.tuple #[.agg #[.slice none 0 0, .slice none 0 0], ev 4]))
theorem nodeParse_any (s0 : List UInt8) (w : World) (hl : s0.length ≤ 10000) :
  Calls Tryz.prog 87 #[.string (S s0)] w fun e w' => NodeRes w.heap.size s0 w' (.int .i64) e ∧ Below w.heap.size w w' := by
 obtain ⟨i0, hi, iz0, iz1, iz2⟩ := info_parts infoC
 have HS0 := Lib.hid (show s0 = s0 from rfl)
 by_cases h1 : 1 ≤ s0.length
 ·obtain ⟨k, r0, hk, hs⟩ := as_num1 1 s0 h1
  have hk' : k < 256 := by have := hk (1, k) (by simp); simpa using this
  have hsk : s0 = UInt8.ofNat k :: r0 := by rw [hs]; simp [wtext, le, List.range_succ, Nat.mod_eq_of_lt hk']
  have HK := Lib.hid hk
  have hr0 : r0.length ≤ 10000 := by rw [hsk, List.length_cons] at hl; omega
  have HSK := Lib.hid hsk
  have HS := Lib.hid hs
  clear hk hs hsk h1 hl
  go_enter Tryz.func87, Tryz.ntmps87
  go_upto_region 1 with (fail)
  obtain ⟨W, hW⟩ : ∃ W, W = w.alloc (.cells #[.slice none 0 0, .slice none 0 0] 105) := ⟨_, rfl⟩
  have hX : Below w.heap.size w W := by rw [hW]; go_grown
  have hWz := Lib.hid (show W.heap.size = w.heap.size + 1 by rw [hW]; simp)
  have HR := Lib.hid (show W.cell? ⟨w.heap.size, 0, none⟩ = some (.slice none 0 0) ∧ W.cell? ⟨w.heap.size, 1, none⟩ = some (.slice none 0 0) ∧ ∀ o, W.frozen? ⟨w.heap.size, o, none⟩ = false by
   rw [hW]; refine ⟨?_, ?_, fun o => World.frozen?_alloc_at _ _ _ _ rfl⟩ <;> (rw [World.cell?_alloc_at _ _ _ _ rfl]; rfl))
  rw [← hW]
  clear hW
  go_wp2_with fail
  rw [HS.out]
  have hX1 : Below W.heap.size W (W.alloc (.cells #[.int .i64 1] 3)) := by go_grown
  refine (read_ok (some ⟨W.heap.size, 0, none⟩) 1 [(1, k)] r0 _ (intsW_new W #[.int .i64 1] 3 (0, 0) [(1, k)] rfl) (wide1 1 _ (by decide) (by decide)) HK.out (by simp) (by omega)).mono ?_
  rintro e w1 ⟨⟨ga, gc, rfl, hgn⟩, hB1⟩
  obtain ⟨gb, go, rfl, hgb, hgc⟩ := hgn.at (by simp)
  have n0 : w1.cell? ⟨gb, go, none⟩ = some (.int .u64 (k : Nat)) := by have := hgc 0 (by simp) 0 _ rfl; simpa using this
  have hXW := hX1.trans (hB1.mono hX1.size)
  have HR1 := Lib.hid (And.intro (kept_cell hXW HR.out.1) (And.intro (kept_cell hXW HR.out.2.1) (fun o => ((bcell hXW).2 w.heap.size o (by have := hWz.out; omega)).trans (HR.out.2.2 o))))
  have HL1 := Lib.hid (hX.trans (hXW.mono hX.size))
  have hz1 : w.heap.size + 1 ≤ w1.heap.size := by have := hXW.size; have := hWz.out; omega
  clear hX1 hB1 hXW hgn hgc HR hX
  rw [← HS.out]
  go_upto_region 5 with (fail)
  obtain ⟨W4, hW4⟩ : ∃ W4, W4 = w1.alloc (.cells #[.slice none 0 0, .slice none 0 0] 105) := ⟨_, rfl⟩
  have hX4 : Below w1.heap.size w1 W4 := by rw [hW4]; go_grown
  have HP := Lib.hid (show ParAt 179 w W4 w.heap.size w1.heap.size [] none 0 from
   ⟨by rw [hW4, World.cell?_alloc_at _ _ _ _ rfl]; rfl, by rw [hW4, World.cell?_alloc_at _ _ _ _ rfl]; rfl, fun o => by rw [hW4]; exact World.frozen?_alloc_at _ _ _ _ rfl, kept_cell hX4 HR1.out.1, kept_cell hX4 HR1.out.2.1, fun o => ((bcell hX4).2 w.heap.size o (by omega)).trans (HR1.out.2.2 o), World.ownsRow_nil _ _ _ _, HL1.out.trans (hX4.mono HL1.out.size), by omega⟩)
  have n4 := kept_cell hX4 n0
  have hz4 : w1.heap.size < W4.heap.size := by rw [hW4]; simp
  rw [← hW4]
  clear hW4 hX4 HR1 HL1 n0
  go_wp2_with fail
  go_loopw [0, 5, 23] (fun s ok i wr => ∃ (j : Nat) (r : List UInt8) (cs : List Chd) (a : Option Addr) (y : Nat), s = .string (S r) ∧ ok = .bool true ∧ i = .int .u64 j ∧ j ≤ k ∧ cs.length = j ∧ r.length ≤ 10000 ∧ Hid (∀ c ∈ cs, ChdIs c ∧ Placed c.addr) ∧ Hid (r0 = kidsT cs ++ r) ∧ Hid (ParAt 179 w wr w.heap.size w1.heap.size cs a y)) (fun _ _ i _ => k - (intOf i).toNat)
  case atStart => exact ⟨0, r0, [], none, 0, rfl, rfl, rfl, Nat.zero_le _, rfl, hr0, Lib.hid (fun c hc => by simp at hc), Lib.hid rfl, HP⟩
  case round =>
   obtain ⟨j, r, cs, a, y, rfl, rfl, rfl, hj, hcj, hrl, HCS, HRR, HP⟩ := hrel
   have hj0 : (0 : Int) ≤ (j : Int) := Int.natCast_nonneg _
   have HCJ := Lib.hid hcj
   clear hcj
   by_cases hjk : j < k
   ·have hj1 : (j : Int) < (k : Int) := by omega
    go_upto_region 8 with (fail)
    obtain ⟨w2, hw2⟩ : ∃ w2, w2 = wr.alloc (.cells #[.string ⟨#[]⟩, .int .i64 0, .int .u64 0, .int .u32 0] 179) := ⟨_, rfl⟩
    have hX2 : Below wr.heap.size wr w2 := by rw [hw2]; go_grown
    have HC2 := Lib.hid (show w2.cell? ⟨wr.heap.size, 0, none⟩ = some (.string ⟨#[]⟩) ∧ w2.cell? ⟨wr.heap.size, 1, none⟩ = some (.int .i64 0) ∧ w2.cell? ⟨wr.heap.size, 2, none⟩ = some (.int .u64 0) ∧ w2.cell? ⟨wr.heap.size, 3, none⟩ = some (.int .u32 0) ∧ ∀ o, w2.frozen? ⟨wr.heap.size, o, none⟩ = false by
     rw [hw2]; refine ⟨?_, ?_, ?_, ?_, fun o => World.frozen?_alloc_at _ _ _ _ rfl⟩ <;> (rw [World.cell?_alloc_at _ _ _ _ rfl]; rfl))
    have hzw2 : wr.heap.size < w2.heap.size := by rw [hw2]; simp
    rw [← hw2]
    clear hw2
    go_wp2_with fail
    refine (childP_any r w2 (by omega)).mono ?_
    rintro e w3 ⟨⟨v, rfl, hres⟩, hB3⟩
    have hX3 := hX2.trans (hB3.mono hX2.size)
    obtain ⟨k0, k1, k2, k3, kg⟩ := HC2.out
    have y0 := kept_cell hB3 k0
    have y1 := kept_cell hB3 k1
    have y2 := kept_cell hB3 k2
    have y3 := kept_cell hB3 k3
    have f0 := ((bcell hB3).2 wr.heap.size 0 hzw2).trans (kg 0)
    have f1 := ((bcell hB3).2 wr.heap.size 1 hzw2).trans (kg 1)
    have f2 := ((bcell hB3).2 wr.heap.size 2 hzw2).trans (kg 2)
    have f3 := ((bcell hB3).2 wr.heap.size 3 hzw2).trans (kg 3)
    have HX3 := Lib.hid hX3
    have hz3 := hB3.size
    clear hX2 hB3 hX3 k0 k1 k2 k3 kg HC2
    have hu : ∃ low A g s rr okb, v = .tuple #[ChV low A g s, .string (S rr), .bool okb] := by
     rcases hres with ⟨c, rest, -, -, -, h4⟩ | ⟨-, low, A, g, s, rr, h4⟩
     ·exact ⟨_, _, _, _, _, _, h4⟩
     ·exact ⟨_, _, _, _, _, _, h4⟩
    obtain ⟨low, A, g, s, rr, okb, rfl⟩ := hu
    have HRES := Lib.hid hres
    clear hres
    go_upto_region 9 with (fail)
    obtain ⟨s1, -, -, s4, s5⟩ := setL_spec (b := wr.heap.size) [.string (S low), .int .i64 A, .int .u64 g, .int .u32 s] 0 w3 (fun i hi => by
     rcases i with _ | _ | _ | _ | i
     ·exact ⟨_, y0⟩
     ·exact ⟨_, y1⟩
     ·exact ⟨_, y2⟩
     ·exact ⟨_, y3⟩
     ·simp at hi; omega)
    have hZ : setL w3 wr.heap.size 0 [.string (S low), .int .i64 A, .int .u64 g, .int .u32 s] = (((w3.setCell ⟨wr.heap.size, 0, none⟩ (.string (S low))).setCell ⟨wr.heap.size, 1, none⟩ (.int .i64 A)).setCell ⟨wr.heap.size, 2, none⟩ (.int .u64 g)).setCell ⟨wr.heap.size, 3, none⟩ (.int .u32 s) := rfl
    have t0 := s1 0 _ rfl
    have t1 := s1 1 _ rfl
    have t2 := s1 2 _ rfl
    have t3 := s1 3 _ rfl
    have t5 := s5 _ _ HX3.out (Nat.le_refl _)
    simp only [Nat.zero_add] at t0 t1 t2 t3
    rw [← hZ]
    generalize setL w3 wr.heap.size 0 [.string (S low), .int .i64 A, .int .u64 g, .int .u32 s] = Z at *
    have HPZ := Lib.hid (HP.out.on t5)
    have hzZ := t5.size
    clear HX3 HP hZ s1 s4 s5 y0 y1 y2 y3 f0 f1 f2 f3 t5
    cases okb with
    | true =>
     have hyes : ∃ c, c = (⟨low, A, g, s⟩ : Chd) ∧ ChdIs c ∧ Placed c.addr ∧ r = chT c ++ rr := by
      rcases HRES.out with ⟨c, rest, h1, h2, h3, h4⟩ | ⟨-, low', A', g', s', rr', h4⟩
      ·simp only [Value.tuple.injEq, Value.agg.injEq, Array.mk.injEq, List.cons.injEq, Value.string.injEq, Value.int.injEq, and_true, true_and] at h4
       obtain ⟨⟨e1, e2, e3, e4⟩, e5⟩ := h4
       refine ⟨c, ?_, h1, h2, ?_⟩
       ·obtain ⟨lo, ad, ge, su⟩ := c
        dsimp only at *
        rw [S_inj e1, e2, show g = ge by omega, show s = su by omega]
       ·rw [S_inj e5]; exact h3
      ·simp at h4
     obtain ⟨c, hc, hci, hcp, hrc⟩ := hyes
     have HCS' := Lib.hid (show ∀ x ∈ cs ++ [c], ChdIs x ∧ Placed x.addr from fun x hx => (List.mem_append.1 hx).elim (HCS.out x) (fun e => by rw [List.mem_singleton.1 e]; exact ⟨hci, hcp⟩))
     have HRR' := Lib.hid (show r0 = kidsT (cs ++ [c]) ++ rr by rw [HRR.out, hrc, kidsT_app]; simp [kidsT])
     have hrr : rr.length ≤ 10000 := by rw [hrc, List.length_append] at hrl; omega
     have HCJ' := Lib.hid (show (cs ++ [c]).length = j + 1 by rw [List.length_append, List.length_singleton, HCJ.out])
     have HCL := Lib.hid (show cellsC cs ++ [.string (S low), .int .i64 A, .int .u64 g, .int .u32 s] = cellsC (cs ++ [c]) by rw [cellsC_append, cellsC_one, hc]; rfl)
     clear hrc hci hcp hc HRES HCS HRR
     have p0 := HPZ.out.c0
     have pf := HPZ.out.fz 0
     have hnl := HPZ.out.ltN
     have HOW := Lib.hid HPZ.out.own
     have hcl : cs.length ≤ 255 := by rw [HCJ.out]; omega
     have HLN := Lib.hid (show (cs ++ [c]).length = cs.length + 1 by rw [List.length_append, List.length_singleton])
     go_wp2_with (at_builtin; go_must (refine wpList_append_own_at _ rfl (.tmp 35) (.tmp 37) 100 rfl (w1.heap.size + 1) 179 i0 (.agg #[.string ByteArray.empty, .int .i64 0, .int .u64 0, .int .u32 0]) 4 40 Tryz.underlying100 hi iz0 iz1 iz2 rfl (by decide) _ cs.length _ rfl (HOW.out.alloc _) ⟨Z.heap.size, 0, none⟩ 1 1 [.string (S low), .int .i64 A, .int .u64 g, .int .u32 s] rfl rfl (cell_four_at _ _ rfl _ _ _ _ _) (kid_oneCell _ _ _ _) (by unfold maxLen; omega) (by omega) (by rw [World.size_alloc]; omega) ?_; intro vc wz hownvc hgrowvc _ hatvc; rw [HCL.out] at hownvc; obtain ⟨ac, yc, rfl⟩ := own_form hownvc; have HPA := Lib.hid (HPZ.out.on ((Below.refl _ Z).alloc (Nat.le_refl _) (.cells #[.string (S low), .int .i64 A, .int .u64 g, .int .u32 s] 179))); have hNe : some w1.heap.size ≠ (Value.slice a cs.length y).ownBlock := (fun e => by have := (HPA.out.own.lt _ e.symm).1; omega); have z0 := hgrowvc.cell HPA.out.c0 hNe; have zf := (World.frozen?_of_block (hgrowvc.block w1.heap.size HPA.out.ltN hNe)).trans (HPA.out.fz 0); have HGR := Lib.hid (HPA.out.grown (cs' := cs ++ [c]) (a' := ac) (y' := yc) hgrowvc (by rw [HLN.out]; exact hownvc)); clear hatvc hownvc hgrowvc hNe))
     rw [HLN.out] at HGR
     exact ⟨⟨j + 1, rr, cs ++ [c], ac, yc, rfl, rfl, by go_num, by omega, HCJ'.out, hrr, HCS', HRR', HGR⟩, by simp [intOf]; omega⟩
    | false =>
     have hno : ∀ c t, ChdOk c → r ≠ chT c ++ t := by
      rcases HRES.out with ⟨c, rest, h1, h2, h3, h4⟩ | ⟨h, low', A', g', s', rr', h4⟩
      ·simp at h4
      ·exact fun c t hc => h c t hc.is hc.addr
     have HNO := Lib.hid (show ∀ cs' us', NodeOk cs' us' → s0 ≠ textN cs' us' from fun cs' us' h' e => by
      rw [HSK.out, HRR.out] at e
      obtain ⟨c, t, h1, h2⟩ := textN_more hk' (by rw [HCJ.out]; exact hjk) (fun c hc => (HCS.out c hc).1) h' e
      exact hno c t h1 h2)
     clear hno HRES
     have q0 := HPZ.out.r0
     have q1 := HPZ.out.r1
     have qf0 := HPZ.out.rz 0
     have qf1 := HPZ.out.rz 1
     go_wp2_with fail
     obtain ⟨ZZ, hZZ⟩ : ∃ ZZ, ZZ = (Z.setCell ⟨w.heap.size, 0, none⟩ (.slice none 0 0)).setCell ⟨w.heap.size, 1, none⟩ (.slice none 0 0) := ⟨_, rfl⟩
     obtain ⟨s0', s1', s5'⟩ := set2 _ _ q0 q1 hZZ
     rw [← hZZ]
     exact bodyPost_ret (v := .tuple #[.agg #[.slice none 0 0, .slice none 0 0], .int .i64 4]) (by simp [results, Tryz.results87, go_sem, s0', s1']) rfl ⟨.no HNO.out rfl, s5' _ _ HPZ.out.below (Nat.le_refl _)⟩
   ·obtain rfl : j = k := by omega
    have HCI := Lib.hid (fun c hc => (HCS.out c hc).1)
    have p0 := HP.out.c0
    have hpu := parseU_two r
    have hpl := (parseU_all r).1
    have HPT := Lib.hid (show ∀ l, (∀ u ∈ l, Okay u) → Rising Upd.key l → parseU (textU l) = (l, 0) from fun l h k => parseU_text h k)
    obtain ⟨P, hP⟩ : ∃ P, P = parseU r := ⟨_, rfl⟩
    have HBP := Lib.hid (fun w => bufParse_any r (by omega) w)
    rw [← hP] at HBP hpu hpl
    have HPB := Lib.hid hP
    clear hP
    obtain ⟨us, pe⟩ := P
    dsimp only at hpu hpl
    go_wp2_with fail
    refine (HBP.out wr).mono ?_
    rintro e w6 ⟨⟨ba, bc, rfl, hbo⟩, hB6⟩
    dsimp only at hbo ⊢
    have HP6 := Lib.hid (HP.out.on hB6)
    have hzr := HP.out.ltN
    have HBO := Lib.hid (own_base hbo (show w1.heap.size + 1 ≤ wr.heap.size by omega))
    clear hB6 hbo HP p0 HBP
    go_upto_region 14 with (fail)
    have hX7 : Below w6.heap.size w6 (w6.alloc (.cells #[.slice ba us.length bc] 103)) := by go_grown
    have HP7 := Lib.hid (HP6.out.on hX7)
    have HBO7 := Lib.hid (own_below HBO.out hX7)
    have hl6 := HP6.out.ltN
    obtain ⟨w7, hw7⟩ : ∃ w7, w7 = w6.alloc (.cells #[.slice ba us.length bc] 103) := ⟨_, rfl⟩
    have c8 : w7.cell? ⟨w6.heap.size, 0, none⟩ = some (.slice ba us.length bc) := by rw [hw7, World.cell?_alloc_at _ _ _ _ rfl]; rfl
    rw [← hw7] at hX7 HP7 HBO7 ⊢
    clear hw7 hX7 HP6 HBO
    have p1 := HP7.out.c1
    have pf1 := HP7.out.fz 1
    go_upto_region 15 with (fail)
    obtain ⟨W8, hW8⟩ : ∃ W8, W8 = w7.setCell ⟨w1.heap.size, 1, none⟩ (.slice ba us.length bc) := ⟨_, rfl⟩
    have hw1w := HP7.out.lt
    have HN8 := Lib.hid (show W8.cell? ⟨w1.heap.size, 0, none⟩ = some (.slice a cs.length y) ∧ W8.cell? ⟨w1.heap.size, 1, none⟩ = some (.slice ba us.length bc) by
     rw [hW8]; exact ⟨(World.cell?_setCell_other _ _ _ _ (addr_ne (Or.inr (by decide)))).trans HP7.out.c0, World.cell?_setCell_same _ _ _ p1⟩)
    have HR8 := Lib.hid (show W8.cell? ⟨w.heap.size, 0, none⟩ = some (.slice none 0 0) ∧ W8.cell? ⟨w.heap.size, 1, none⟩ = some (.slice none 0 0) ∧ ∀ o, W8.frozen? ⟨w.heap.size, o, none⟩ = false by
     rw [hW8]; exact ⟨(World.cell?_setCell_other _ _ _ _ (addr_ne (Or.inl (by omega)))).trans HP7.out.r0, (World.cell?_setCell_other _ _ _ _ (addr_ne (Or.inl (by omega)))).trans HP7.out.r1, fun o => by rw [World.frozen?_setCell]; exact HP7.out.rz o⟩)
    have HO8 := Lib.hid (show W8.ownsRow (w1.heap.size + 1) 179 4 (.slice a cs.length y) cs.length (cellsC cs) by
     rw [hW8]; exact ownsRow_setCell_other (a := ⟨w1.heap.size, 1, none⟩) HP7.out.own (fun e => by have h := (HP7.out.own.lt _ e).1; dsimp only at h; omega) _)
    have HU8 := Lib.hid (show W8.ownsRow (w1.heap.size + 1) 39 4 (.slice ba us.length bc) us.length (cellsU us) by
     rw [hW8]; exact ownsRow_setCell_other (a := ⟨w1.heap.size, 1, none⟩) HBO7.out (fun e => by have h := (HBO7.out.lt _ e).1; dsimp only at h; omega) _)
    have HL8 := Lib.hid (show Below w.heap.size w W8 by rw [hW8]; exact HP7.out.below.setCell (p := ⟨w1.heap.size, 1, none⟩) (Nat.le_of_lt hw1w) _)
    rw [← hW8]
    clear hW8 HP7 HBO7 c8 p1 pf1
    obtain ⟨q0, q1, qz⟩ := HR8.out
    have qf0 := qz 0
    have qf1 := qz 1
    obtain ⟨d0, d1⟩ := HN8.out
    by_cases hpe : pe = 0
    ·subst hpe
     obtain ⟨hru, hok, hris⟩ := parseU_back HPB.out.symm
     have HRU := Lib.hid hru
     have HOK := Lib.hid hok
     have HRIS := Lib.hid hris
     clear hru hok hris hpu
     have HND := Lib.hid (NodeAt.mk' (slC_row HO8.out).2 (slU_row HU8.out).2)
     have HIN := Lib.hid (show NodeIn cs us from ⟨by rw [HCJ.out]; omega, by omega, fun c hc => ⟨⟨by have := (HCI.out c hc).addr; omega, by have := (HCI.out c hc).addr; omega⟩, (HCI.out c hc).gen, (HCI.out c hc).sum⟩, fun c hc => by have := (HCI.out c hc).low; omega, fun u hu => (HOK.out u hu).wf⟩)
     have HRT := Lib.hid (fun w' h => nodeRight_any (.agg #[.slice a cs.length y, .slice ba us.length bc]) cs us w' h HIN.out)
     go_wp2_with fail
     refine (HRT.out W8 HND.out).mono ?_
     rintro e w9 ⟨⟨rb, rfl, hrb⟩, hB9⟩
     have HL9 := Lib.hid (HL8.out.trans (hB9.mono HL8.out.size))
     have hlw := HL8.out.size
     have HRW := Lib.hid (show w.heap.size < w1.heap.size from hw1w)
     have HO9 := Lib.hid (own_below HO8.out hB9)
     have HU9 := Lib.hid (own_below HU8.out hB9)
     have e0 := kept_cell hB9 d0
     have e1 := kept_cell hB9 d1
     have hlw8 := World.block_lt_of_cell? W8 _ q0
     have q0 := kept_cell hB9 q0
     have q1 := kept_cell hB9 q1
     have qf0 := ((bcell hB9).2 w.heap.size 0 hlw8).trans qf0
     have qf1 := ((bcell hB9).2 w.heap.size 1 hlw8).trans qf1
     clear HRT HIN HND HO8 HU8 HL8 HR8 HN8 d0 d1 hB9 qz
     cases rb with
     | true =>
      have HOKN := Lib.hid ((hrb.1 rfl).node HRIS.out)
      have HSS := Lib.hid (show s0 = textN cs us by rw [HSK.out, HRR.out, HRU.out]; unfold textN; rw [HCJ.out])
      clear hrb
      go_wp2_with fail
      obtain ⟨ZZ, hZZ⟩ : ∃ ZZ, ZZ = (w9.setCell ⟨w.heap.size, 0, none⟩ (.slice a cs.length y)).setCell ⟨w.heap.size, 1, none⟩ (.slice ba us.length bc) := ⟨_, rfl⟩
      obtain ⟨s0', s1', s5'⟩ := set2 _ _ q0 q1 hZZ
      have hoz : ZZ.ownsRow (w1.heap.size + 1) 179 4 (.slice a cs.length y) cs.length (cellsC cs) := by
       rw [hZZ]; exact ownsRow_setCell_other (a := ⟨w.heap.size, 1, none⟩) (ownsRow_setCell_other (a := ⟨w.heap.size, 0, none⟩) HO9.out (fun e => by have h := (HO9.out.lt _ e).1; have h2 := HRW.out; dsimp only at h; omega) _) (fun e => by have h := (HO9.out.lt _ e).1; have h2 := HRW.out; dsimp only at h; omega) _
      have huz : ZZ.ownsRow (w1.heap.size + 1) 39 4 (.slice ba us.length bc) us.length (cellsU us) := by
       rw [hZZ]; exact ownsRow_setCell_other (a := ⟨w.heap.size, 1, none⟩) (ownsRow_setCell_other (a := ⟨w.heap.size, 0, none⟩) HU9.out (fun e => by have h := (HU9.out.lt _ e).1; have h2 := HRW.out; dsimp only at h; omega) _) (fun e => by have h := (HU9.out.lt _ e).1; have h2 := HRW.out; dsimp only at h; omega) _
      rw [← hZZ]
      exact bodyPost_ret (v := .tuple #[.agg #[.slice a cs.length y, .slice ba us.length bc], .int .i64 0]) (by simp [results, Tryz.results87, go_sem, s0', s1']) rfl ⟨.yes cs us _ HSS.out HOKN.out rfl (NodeAt.mk' (slC_row hoz).2 (slU_row huz).2) ⟨_, _, _, _, rfl, own_base hoz (by have := HRW.out; omega), own_base huz (by have := HRW.out; omega)⟩, s5' _ _ HL9.out (Nat.le_refl _)⟩
     | false =>
      have HNO := Lib.hid (show ∀ cs' us', NodeOk cs' us' → s0 ≠ textN cs' us' from fun cs' us' h' e => by
       rw [HSK.out, HRR.out] at e
       obtain ⟨h1, h2⟩ := textN_read hk' HCJ.out HCI.out h' e
       subst h1
       have h3 := HPT.out us' h'.ok h'.rising
       rw [← h2, ← HPB.out] at h3
       simp only [Prod.mk.injEq, and_true] at h3
       subst h3
       exact absurd (hrb.2 h'.right) (by simp))
      clear hrb
      go_wp2_with fail
      obtain ⟨ZZ, hZZ⟩ : ∃ ZZ, ZZ = (w9.setCell ⟨w.heap.size, 0, none⟩ (.slice none 0 0)).setCell ⟨w.heap.size, 1, none⟩ (.slice none 0 0) := ⟨_, rfl⟩
      obtain ⟨s0', s1', s5'⟩ := set2 _ _ q0 q1 hZZ
      rw [← hZZ]
      exact bodyPost_ret (v := .tuple #[.agg #[.slice none 0 0, .slice none 0 0], .int .i64 4]) (by simp [results, Tryz.results87, go_sem, s0', s1']) rfl ⟨.no HNO.out rfl, s5' _ _ HL9.out (Nat.le_refl _)⟩
    ·have hpe4 : us = [] ∧ pe = 4 := by
      rcases hpu with h | h
      ·exact absurd h hpe
      ·simpa using h
     obtain ⟨rfl, rfl⟩ := hpe4
     have HNO := Lib.hid (show ∀ cs' us', NodeOk cs' us' → s0 ≠ textN cs' us' from fun cs' us' h' e => by
      rw [HSK.out, HRR.out] at e
      obtain ⟨h1, h2⟩ := textN_read hk' HCJ.out HCI.out h' e
      have h3 := HPT.out us' h'.ok h'.rising
      rw [← h2, ← HPB.out] at h3
      simp at h3)
     clear hpu hpe
     go_wp2_with fail
     obtain ⟨ZZ, hZZ⟩ : ∃ ZZ, ZZ = (W8.setCell ⟨w.heap.size, 0, none⟩ (.slice none 0 0)).setCell ⟨w.heap.size, 1, none⟩ (.slice none 0 0) := ⟨_, rfl⟩
     obtain ⟨s0', s1', s5'⟩ := set2 _ _ q0 q1 hZZ
     rw [← hZZ]
     exact bodyPost_ret (v := .tuple #[.agg #[.slice none 0 0, .slice none 0 0], .int .i64 4]) (by simp [results, Tryz.results87, go_sem, s0', s1']) rfl ⟨.no HNO.out rfl, s5' _ _ HL8.out (Nat.le_refl _)⟩
 ·have hs0 : s0 = [] := List.eq_nil_of_length_eq_zero (by omega)
  subst hs0
  have HNO := Lib.hid (show ∀ cs' us', NodeOk cs' us' → [] ≠ textN cs' us' from fun cs' us' h' e => by simp [textN] at e)
  go_enter Tryz.func87, Tryz.ntmps87
  go_upto_region 1 with (fail)
  obtain ⟨W, hW⟩ : ∃ W, W = w.alloc (.cells #[.slice none 0 0, .slice none 0 0] 105) := ⟨_, rfl⟩
  have hX : Below w.heap.size w W := by rw [hW]; go_grown
  have hWz := Lib.hid (show W.heap.size = w.heap.size + 1 by rw [hW]; simp)
  have HR := Lib.hid (show W.cell? ⟨w.heap.size, 0, none⟩ = some (.slice none 0 0) ∧ W.cell? ⟨w.heap.size, 1, none⟩ = some (.slice none 0 0) ∧ ∀ o, W.frozen? ⟨w.heap.size, o, none⟩ = false by
   rw [hW]; refine ⟨?_, ?_, fun o => World.frozen?_alloc_at _ _ _ _ rfl⟩ <;> (rw [World.cell?_alloc_at _ _ _ _ rfl]; rfl))
  rw [← hW]
  clear hW
  go_wp2_with fail
  have hX1 : Below W.heap.size W (W.alloc (.cells #[.int .i64 1] 3)) := by go_grown
  refine (read_short (some ⟨W.heap.size, 0, none⟩) 1 [(1, 0)] [] _ (intsW_new W #[.int .i64 1] 3 (0, 0) [(1, 0)] rfl) (wide1 1 _ (by decide) (by decide)) (by simp) (by simp [sumW])).mono ?_
  rintro e w1 ⟨rfl, rfl⟩
  have q0 := kept_cell hX1 HR.out.1
  have q1 := kept_cell hX1 HR.out.2.1
  have qf0 := ((bcell hX1).2 w.heap.size 0 (by have := hWz.out; omega)).trans (HR.out.2.2 0)
  have qf1 := ((bcell hX1).2 w.heap.size 1 (by have := hWz.out; omega)).trans (HR.out.2.2 1)
  have HL := Lib.hid (hX.trans (hX1.mono hX.size))
  generalize W.alloc (.cells #[.int .i64 1] 3) = w1 at *
  go_wp2_with fail
  obtain ⟨ZZ, hZZ⟩ : ∃ ZZ, ZZ = (w1.setCell ⟨w.heap.size, 0, none⟩ (.slice none 0 0)).setCell ⟨w.heap.size, 1, none⟩ (.slice none 0 0) := ⟨_, rfl⟩
  obtain ⟨s0', s1', s5'⟩ := set2 _ _ q0 q1 hZZ
  rw [← hZZ]
  exact bodyPost_ret (v := .tuple #[.agg #[.slice none 0 0, .slice none 0 0], .int .i64 4]) (by simp [results, Tryz.results87, go_sem, s0', s1']) rfl ⟨.no HNO.out rfl, s5' _ _ HL.out (Nat.le_refl _)⟩
end Go.Proofs.YtafciefjlkdecaaGreat
namespace Go.Proofs.YtafciefjlkdecaaGreat
open Go.RowKit
structure Keep (S : Nat → Prop) (w w' : World) : Prop where
 os : w'.os = w.os
 tape : w'.tape = w.tape
 output : w'.output = w.output
 size : w.heap.size ≤ w'.heap.size
 block : ∀ b, b < w.heap.size → ¬ S b → w'.heap[b]? = w.heap[b]?
theorem Keep.of_below {S : Nat → Prop} {w w' : World} (h : Below w.heap.size w w') : Keep S w w' := ⟨h.os, h.tape, h.output, h.size, fun b hb _ => h.block b hb⟩
theorem Keep.refl (S : Nat → Prop) (w : World) : Keep S w w := .of_below (Below.refl _ _)
theorem Keep.trans {S T : Nat → Prop} {a b c : World} (h : Keep S a b) (k : Keep T b c) (hT : ∀ x, T x → S x ∨ a.heap.size ≤ x) : Keep S a c :=
 ⟨k.os.trans h.os, k.tape.trans h.tape, k.output.trans h.output, Nat.le_trans h.size k.size, fun x hx hs => (k.block x (Nat.lt_of_lt_of_le hx h.size) (fun ht => (hT x ht).elim hs (fun q => by omega))).trans (h.block x hx hs)⟩
theorem Keep.trans' {S : Nat → Prop} {a b c : World} (h : Keep S a b) (k : Keep S b c) : Keep S a c := h.trans k fun _ hx => Or.inl hx
theorem Keep.on {S : Nat → Prop} {a b c : World} (h : Keep S a b) (k : Below b.heap.size b c) : Keep S a c := h.trans' (.of_below k)
theorem Keep.setCell {S : Nat → Prop} {a b : World} (h : Keep S a b) (p : Addr) (hp : S p.block ∨ a.heap.size ≤ p.block) (v : Value) : Keep S a (b.setCell p v) :=
 ⟨h.os, h.tape, h.output, by rw [World.size_setCell]; exact h.size, fun x hx hs => (Go.heap_setCell_other b p x v (fun e => by subst e; exact hp.elim hs (fun q => by omega))).trans (h.block x hx hs)⟩
theorem Keep.row {S : Nat → Prop} {a b : World} {E : TypeId} {g : Nat} {cur : List Value} (h : Keep S a b) (hr : RowIs a E g cur) (hs : ¬ S g) : RowIs b E g cur := (h.block g hr.lt hs).trans hr
theorem Keep.vx {S : Nat → Prop} {a b : World} {g : Nat} {kn : Bool} {pa : Int} {pg ps : Nat} {ld : Bool} {lf cs us ks : Value} (h : Keep S a b) (hv : VxAt a g kn pa pg ps ld lf cs us ks) (hs : ¬ S g) : VxAt b g kn pa pg ps ld lf cs us ks := ⟨h.row hv.row hs⟩
theorem Keep.below {S : Nat → Prop} {a b : World} {N : Nat} (h : Keep S a b) (hN : N ≤ a.heap.size) (hS : ∀ x, S x → N ≤ x) : Below N a b :=
 ⟨h.os, h.tape, h.output, h.size, fun k hk => h.block k (by omega) (fun q => by have := hS k q; omega)⟩
theorem Keep.mono {S T : Nat → Prop} {a b : World} (h : Keep S a b) (hST : ∀ x, S x → T x) : Keep T a b := ⟨h.os, h.tape, h.output, h.size, fun x hx ht => h.block x hx (fun q => ht (hST x q))⟩
theorem Keep.grown {S : Nat → Prop} {a b c : World} {r : Option Nat} (h : Keep S a b) (hg : b.grownBy c r) (hr : ∀ k, r = some k → S k ∨ a.heap.size ≤ k) : Keep S a c :=
 ⟨hg.os.trans h.os, hg.tape.trans h.tape, hg.output.trans h.output, Nat.le_trans h.size hg.size, fun x hx hs => by
  rw [hg.block x (Nat.lt_of_lt_of_le hx h.size) (fun e => (hr x e.symm).elim hs (fun q => by omega))]
  exact h.block x hx hs⟩
def NoStr (w : World) (b : Nat) : Prop := ∀ o s, w.cell? ⟨b, o, none⟩ ≠ some (.string s)
theorem RowIs.noStr {w : World} {E : TypeId} {g : Nat} {cur : List Value} (h : RowIs w E g cur) (hc : ∀ s, Value.string s ∉ cur) : NoStr w g := fun o s e => by
 rw [h.cell] at e
 exact hc s (List.mem_of_getElem? e)
theorem SlAt.keep {α : Type} {enc : α → List Value} {k : Nat} {w w' : World} {ao : Option Addr} {l : List α} {S : Nat → Prop} (h : SlAt enc k w ao l) (hk : Keep S w w') (hS : ∀ b, S b → NoStr w b) (henc : ∀ x : α, ∃ (j : Nat) (s : ByteArray), (enc x)[j]? = some (Value.string s)) : SlAt enc k w' ao l := by
 rcases h with rfl | ⟨b, off, rfl, hb, hc⟩
 ·exact Or.inl rfl
 ·by_cases hl : l = []
  ·exact Or.inl hl
  ·have hl0 : 0 < l.length := List.length_pos_iff.2 hl
   obtain ⟨j, s, hj⟩ := henc l[0]
   have hnS : ¬ S b := fun q => hS b q _ s (hc 0 hl0 j _ hj)
   refine Or.inr ⟨b, off, rfl, Nat.lt_of_lt_of_le hb hk.size, fun i hi j x hx => ?_⟩
   rw [World.cell?_of_block (hk.block b hb hnS)]
   exact hc i hi j x hx
theorem SlC.keep {w w' : World} {v : Value} {l : List Chd} {S : Nat → Prop} (h : SlC w v l) (hk : Keep S w w') (hS : ∀ b, S b → NoStr w b) : SlC w' v l := by
 obtain ⟨ao, c, rfl, hs, h2⟩ := h
 exact ⟨ao, c, rfl, hs.keep hk hS (fun x => ⟨0, _, rfl⟩), h2⟩
theorem SlU.keep {w w' : World} {v : Value} {l : List Upd} {S : Nat → Prop} (h : SlU w v l) (hk : Keep S w w') (hS : ∀ b, S b → NoStr w b) : SlU w' v l := by
 obtain ⟨ao, c, rfl, hs, h2⟩ := h
 exact ⟨ao, c, rfl, hs.keep hk hS (fun x => ⟨1, _, rfl⟩), h2⟩
theorem SlE.keep {w w' : World} {v : Value} {l : List Ent} {S : Nat → Prop} (h : SlE w v l) (hk : Keep S w w') (hS : ∀ b, S b → NoStr w b) : SlE w' v l := by
 obtain ⟨ao, c, rfl, hs, h2⟩ := h
 exact ⟨ao, c, rfl, hs.keep hk hS (fun x => ⟨0, _, rfl⟩), h2⟩
theorem BoxU.keep {w w' : World} {v : Value} {l : List Upd} {S : Nat → Prop} (h : BoxU w v l) (hk : Keep S w w') (hS : ∀ b, S b → NoStr w b) : BoxU w' v l := by
 obtain ⟨s, rfl, hs⟩ := h
 exact ⟨s, rfl, hs.keep hk hS⟩
theorem BoxE.keep {w w' : World} {v : Value} {l : List Ent} {S : Nat → Prop} (h : BoxE w v l) (hk : Keep S w w') (hS : ∀ b, S b → NoStr w b) : BoxE w' v l := by
 obtain ⟨s, rfl, hs⟩ := h
 exact ⟨s, rfl, hs.keep hk hS⟩
theorem NodeAt.keep {w w' : World} {v : Value} {cs : List Chd} {us : List Upd} {S : Nat → Prop} (h : NodeAt w v cs us) (hk : Keep S w w') (hS : ∀ b, S b → NoStr w b) : NodeAt w' v cs us := by
 obtain ⟨a, b, x, y, rfl, h1, h2⟩ := h
 exact ⟨a, b, x, y, rfl, h1.keep hk hS, h2.keep hk hS⟩
theorem VxAt.noStr {w : World} {b : Nat} {kn : Bool} {pa : Int} {pg ps : Nat} {ld : Bool} {a1 a2 a3 a4 : Option Addr} {n1 n2 n3 n4 c1 c2 c3 c4 : Nat} (h : VxAt w b kn pa pg ps ld (.slice a1 n1 c1) (.slice a2 n2 c2) (.slice a3 n3 c3) (.slice a4 n4 c4)) : NoStr w b :=
 h.row.noStr fun s => by simp [vxCells]
theorem NodeAt.parts {w : World} {x y : Value} {cs : List Chd} {us : List Upd} (h : NodeAt w (.agg #[x, y]) cs us) : SlC w x cs ∧ SlU w y us := by
 obtain ⟨a, b, u, v, he, h1, h2⟩ := h
 simp only [Value.agg.injEq, Array.mk.injEq, List.cons.injEq, and_true] at he
 obtain ⟨rfl, rfl⟩ := he
 exact ⟨h1, h2⟩
theorem own_rowIs {w : World} {B : Nat} {E : TypeId} {k : Nat} {v : Value} {n : Nat} {xs : List Value} (h : w.ownsRow B E k v n xs) : ∀ g, v.ownBlock = some g → ∃ cur, RowIs w E g cur := fun g e => by
 rcases ownsRow_open h with ⟨rfl, -, -⟩ | ⟨g', cap, cur, rfl, -, hr, -⟩
 ·simp [Value.ownBlock] at e
 ·simp only [Value.ownBlock, Option.some.injEq] at e
  subst e
  exact ⟨cur, hr⟩
theorem own_keep {w w' : World} {B : Nat} {E : TypeId} {k : Nat} {v : Value} {n : Nat} {xs : List Value} {S : Nat → Prop} (h : w.ownsRow B E k v n xs) (hk : Keep S w w') (hS : ∀ g, v.ownBlock = some g → ¬ S g) : w'.ownsRow B E k v n xs := by
 rcases ownsRow_open h with ⟨rfl, rfl, rfl⟩ | ⟨g, cap, cur, rfl, h1, hr, h3, h4, h5, h6⟩
 ·exact World.ownsRow_nil _ _ _ _
 ·exact ownsRow_shut h1 (hk.row hr (hS g rfl)) h3 h4 h5 h6
open Go.RowKit
structure Pt where
 a : Int
 g : Nat
 s : Nat
structure Vt where
 b : Nat
 mem : Bool
 ld : Bool
 kn : Option Pt
 es : List Ent
 us : List Upd
 ch : List (Chd × Vt)
abbrev Vt.cs (v : Vt) : List Chd := v.ch.map Prod.fst
abbrev lw (x : Chd × Vt) : List UInt8 := x.1.low
def pick : List (Chd × Vt) → List UInt8 → Option Vt
 | [], _ => none
 | [x], _ => some x.2
 | x :: y :: r, q => if bl q (lw y) = true then some x.2 else pick (y :: r) q
theorem pick_one (x : Chd × Vt) (q : List UInt8) : pick [x] q = some x.2 := rfl
theorem pick_two (x y : Chd × Vt) (r : List (Chd × Vt)) (q : List UInt8) : pick (x :: y :: r) q = if bl q (lw y) = true then some x.2 else pick (y :: r) q := rfl
theorem bl_down {q k k' : List UInt8} (h : bl q k = false) (h2 : bl k' k = true) : bl q k' = false := by
 cases hq : bl q k' with
 | false => rfl
 | true => rw [bl_trans hq h2] at h; cases h
theorem bl_ne_nil {a b : List UInt8} (h : bl a b = true) : b ≠ [] := fun e => by rw [e, bl_nil] at h; cases h
theorem bl_pos {a : List UInt8} (h : a ≠ []) : bl [] a = true := by
 cases a with
 | nil => exact absurd rfl h
 | cons => rfl
theorem pick_append : ∀ (A : List (Chd × Vt)) (y : Chd × Vt) (D : List (Chd × Vt)) (q : List UInt8), A ≠ [] → (∀ a ∈ A, bl (lw a) (lw y) = true) → pick (A ++ y :: D) q = if bl q (lw y) = true then pick A q else pick (y :: D) q
 | [], _, _, _, h, _ => absurd rfl h
 | [x], y, D, q, _, _ => pick_two x y D q
 | x :: z :: A, y, D, q, _, h => by
  have ih := pick_append (z :: A) y D q (by simp) (fun a ha => h a (List.mem_cons_of_mem _ ha))
  rw [List.cons_append, List.cons_append, pick_two, pick_two, ← List.cons_append, ih]
  have hz := h z (by simp)
  cases hq : bl q (lw y) with
  | false => rw [bl_down hq hz]; simp
  | true => simp
def under (k hi : List UInt8) : Prop := hi = [] ∨ bl k hi = true
instance decUnder (k hi : List UInt8) : Decidable (under k hi) := by unfold under; exact inferInstance
theorem under_of {k hi : List UInt8} : (hi.isEmpty || bl k hi) = true ↔ under k hi := by simp [under]
theorem withinB_iff {k lo hi : List UInt8} : withinB k lo hi = true ↔ bl k lo = false ∧ under k hi := by
 unfold withinB
 rw [Bool.and_eq_true, under_of]
 simp
theorem under.down {k k' hi : List UInt8} (h : under k hi) (h2 : bl k k' = false) : under k' hi := h.imp id fun q => by
 rcases bl_not h2 with rfl | h3
 ·exact q
 ·exact bl_trans h3 q
theorem under.lt {k k' hi : List UInt8} (h : under k hi) (h2 : bl k' k = true) : under k' hi := h.imp id fun q => bl_trans h2 q
def OkK (R : List UInt8 → List UInt8 → Vt → Prop) (hi : List UInt8) : List UInt8 → List (Chd × Vt) → Prop
 | _, [] => False
 | lo, [x] => R lo hi x.2
 | lo, x :: y :: r => bl lo (lw y) = true ∧ under (lw y) hi ∧ R lo (lw y) x.2 ∧ OkK R hi (lw y) (y :: r)
theorem OkK.one {R : List UInt8 → List UInt8 → Vt → Prop} {hi lo : List UInt8} {x : Chd × Vt} : OkK R hi lo [x] ↔ R lo hi x.2 := Iff.rfl
theorem OkK.two {R : List UInt8 → List UInt8 → Vt → Prop} {hi lo : List UInt8} {x y : Chd × Vt} {r : List (Chd × Vt)} : OkK R hi lo (x :: y :: r) ↔ bl lo (lw y) = true ∧ under (lw y) hi ∧ R lo (lw y) x.2 ∧ OkK R hi (lw y) (y :: r) := Iff.rfl
theorem OkK.ne {R : List UInt8 → List UInt8 → Vt → Prop} {hi lo : List UInt8} {l : List (Chd × Vt)} (h : OkK R hi lo l) : l ≠ [] := fun e => by subst e; exact h
theorem OkK.lo_lt {R : List UInt8 → List UInt8 → Vt → Prop} {hi : List UInt8} : ∀ {l : List (Chd × Vt)} {lo : List UInt8}, OkK R hi lo l → ∀ x ∈ l.tail, bl lo (lw x) = true ∧ under (lw x) hi
 | [], _, h => absurd h id
 | [x], _, _ => by simp
 | x :: y :: r, lo, h => by
  obtain ⟨h1, h2, h3, h4⟩ := h
  intro z hz
  rw [List.tail_cons, List.mem_cons] at hz
  rcases hz with rfl | hz
  ·exact ⟨h1, h2⟩
  ·obtain ⟨k1, k2⟩ := OkK.lo_lt h4 z hz
   exact ⟨bl_trans h1 k1, k2⟩
theorem OkK.rising {R : List UInt8 → List UInt8 → Vt → Prop} {hi : List UInt8} : ∀ {l : List (Chd × Vt)} {lo : List UInt8}, OkK R hi lo l → l.tail.Pairwise fun a b => bl (lw a) (lw b) = true
 | [], _, h => absurd h id
 | [x], _, _ => List.Pairwise.nil
 | x :: y :: r, lo, h => by
  rw [List.tail_cons, List.pairwise_cons]
  exact ⟨fun z hz => (OkK.lo_lt h.2.2.2 z hz).1, OkK.rising h.2.2.2⟩
theorem OkK.append {R : List UInt8 → List UInt8 → Vt → Prop} {hi : List UInt8} : ∀ {A : List (Chd × Vt)} {lo : List UInt8} {y : Chd × Vt} {D : List (Chd × Vt)}, A ≠ [] → (OkK R hi lo (A ++ y :: D) ↔ bl lo (lw y) = true ∧ under (lw y) hi ∧ OkK R (lw y) lo A ∧ OkK R hi (lw y) (y :: D))
 | [], _, _, _, h => absurd rfl h
 | [x], lo, y, D, _ => by rw [List.singleton_append, OkK.two, OkK.one]
 | x :: z :: A, lo, y, D, _ => by
  rw [List.cons_append, List.cons_append, OkK.two, ← List.cons_append, OkK.append (A := z :: A) (by simp), OkK.two]
  constructor
  ·rintro ⟨h1, h2, h3, h4, h5, h6, h7⟩
   exact ⟨bl_trans h1 h4, h5, ⟨h1, Or.inr h4, h3, h6⟩, h7⟩
  ·rintro ⟨h1, h2, ⟨h3, h4, h5, h6⟩, h7⟩
   have hzy : bl (lw z) (lw y) = true := h4.elim (fun e => absurd e (bl_ne_nil h1)) id
   exact ⟨h3, h2.lt hzy, h5, hzy, h2, h6, h7⟩
structure EntOk (e : Ent) : Prop where
 kpos : 1 ≤ e.key.length
 klen : e.key.length ≤ 3
 vlen : e.val.length ≤ 20
def fixHead : List (Chd × Vt) → List (Chd × Vt)
 | [] => []
 | x :: r => ({ x.1 with low := [] }, x.2) :: r
def Ok : Nat → List UInt8 → List UInt8 → Vt → Prop
 | 0, lo, hi, v => v.us = [] ∧ v.ch = [] ∧ Rising Ent.key v.es ∧ ∀ e ∈ v.es, EntOk e ∧ withinB e.key lo hi = true
 | n + 1, lo, hi, v => v.es = [] ∧ Rising Upd.key v.us ∧ (∀ u ∈ v.us, Tm u ∧ withinB u.key lo hi = true) ∧ (∀ x ∈ v.ch, ChdOk x.1 ∧ x.1.low.length ≤ 3) ∧ (∀ x, v.ch[0]? = some x → lw x = []) ∧ OkK (Ok n) hi lo v.ch
def actO (o : Option Upd) (x : Option (List UInt8)) : Option (List UInt8) := match o with | none => x | some u => actE u x
def den : Nat → Vt → List UInt8 → Option (List UInt8)
 | 0, v, q => lookE v.es q
 | n + 1, v, q => actO (getL v.us q) (match pick v.ch q with | none => none | some t => den n t q)
def denK (n : Nat) (l : List (Chd × Vt)) (q : List UInt8) : Option (List UInt8) := match pick l q with | none => none | some t => den n t q
theorem den_zero (v : Vt) (q : List UInt8) : den 0 v q = lookE v.es q := rfl
theorem den_succ (n : Nat) (v : Vt) (q : List UInt8) : den (n + 1) v q = actO (getL v.us q) (denK n v.ch q) := rfl
theorem denK_one (n : Nat) (x : Chd × Vt) (q : List UInt8) : denK n [x] q = den n x.2 q := rfl
theorem denK_append (n : Nat) (A : List (Chd × Vt)) (y : Chd × Vt) (D : List (Chd × Vt)) (q : List UInt8) (hA : A ≠ []) (h : ∀ a ∈ A, bl (lw a) (lw y) = true) : denK n (A ++ y :: D) q = if bl q (lw y) = true then denK n A q else denK n (y :: D) q := by
 unfold denK
 rw [pick_append A y D q hA h]
 by_cases hb : bl q (lw y) = true
 ·rw [if_pos hb, if_pos hb]
 ·rw [if_neg hb, if_neg hb]
theorem denK_two (n : Nat) (x y : Chd × Vt) (r : List (Chd × Vt)) (q : List UInt8) : denK n (x :: y :: r) q = if bl q (lw y) = true then den n x.2 q else denK n (y :: r) q := by
 unfold denK
 rw [pick_two]
 by_cases hb : bl q (lw y) = true
 ·rw [if_pos hb, if_pos hb]
 ·rw [if_neg hb, if_neg hb]
theorem pick_head (x x' : Chd × Vt) (r : List (Chd × Vt)) (h : x.2 = x'.2) (q : List UInt8) : pick (x :: r) q = pick (x' :: r) q := by
 cases r with
 | nil => rw [pick_one, pick_one, h]
 | cons y r => rw [pick_two, pick_two, h]
theorem pick_fix (l : List (Chd × Vt)) (q : List UInt8) : pick (fixHead l) q = pick l q := by
 cases l with
 | nil => rfl
 | cons x r => exact pick_head ({ x.1 with low := [] }, x.2) x r rfl q
theorem denK_fix (n : Nat) (l : List (Chd × Vt)) (q : List UInt8) : denK n (fixHead l) q = denK n l q := by unfold denK; rw [pick_fix]
theorem OkK_head {R : List UInt8 → List UInt8 → Vt → Prop} {hi lo : List UInt8} (x x' : Chd × Vt) (r : List (Chd × Vt)) (h : x.2 = x'.2) : OkK R hi lo (x :: r) ↔ OkK R hi lo (x' :: r) := by
 cases r with
 | nil => rw [OkK.one, OkK.one, h]
 | cons y r => rw [OkK.two, OkK.two, h]
theorem OkK_fix {R : List UInt8 → List UInt8 → Vt → Prop} {hi lo : List UInt8} (l : List (Chd × Vt)) : OkK R hi lo (fixHead l) ↔ OkK R hi lo l := by
 cases l with
 | nil => exact Iff.rfl
 | cons x r => exact OkK_head ({ x.1 with low := [] }, x.2) x r rfl
theorem fixHead_len (l : List (Chd × Vt)) : (fixHead l).length = l.length := by cases l <;> rfl
theorem fixHead_fst (l : List (Chd × Vt)) : (fixHead l).map Prod.fst = headless (l.map Prod.fst) := by cases l <;> rfl
theorem fixHead_ok {l : List (Chd × Vt)} (h : ∀ x ∈ l, ChdOk x.1 ∧ x.1.low.length ≤ 3) : ∀ x ∈ fixHead l, ChdOk x.1 ∧ x.1.low.length ≤ 3 := by
 cases l with
 | nil => exact h
 | cons x r =>
  intro y hy
  rcases List.mem_cons.1 hy with rfl | hy
  ·obtain ⟨h1, -⟩ := h x (by simp)
   exact ⟨⟨by simp, h1.addr, h1.gen, h1.sum⟩, by simp⟩
  ·exact h y (List.mem_cons_of_mem _ hy)
theorem fixHead_first (l : List (Chd × Vt)) : ∀ x, (fixHead l)[0]? = some x → lw x = [] := by
 cases l with
 | nil => intro x hx; simp [fixHead] at hx
 | cons y r => intro x hx; simp only [fixHead, List.getElem?_cons_zero, Option.some.injEq] at hx; rw [← hx]
open Go.RowKit
theorem EntOk.fine {l : List Ent} (h : ∀ e ∈ l, EntOk e) : FineE l := fun e he => ⟨(h e he).kpos, by have := (h e he).klen; omega, by have := (h e he).vlen; omega⟩
theorem rising_nodup {l : List Upd} (h : Rising Upd.key l) : (l.map Upd.key).Nodup := by
 rw [List.Nodup, List.pairwise_map]
 exact h.imp fun hb => bl_ne hb
theorem getL_mem {l : List Upd} {q : List UInt8} {u : Upd} (h : getL l q = some u) : u ∈ l ∧ u.key = q := ⟨List.mem_of_find?_eq_some h, by simpa using List.find?_some h⟩
theorem getL_filter {l : List Upd} {q : List UInt8} (p : List UInt8 → Bool) : getL (l.filter fun u => p u.key) q = if p q = true then getL l q else none := by
 unfold getL
 induction l with
 | nil => simp
 | cons u l ih =>
  by_cases hp : p u.key = true
  ·rw [List.filter_cons_of_pos (p := fun u : Upd => p u.key) hp]
   by_cases hu : u.key = q
   ·rw [List.find?_cons_of_pos (by simpa using hu), List.find?_cons_of_pos (by simpa using hu), ← hu, if_pos hp]
   ·rw [List.find?_cons_of_neg (by simpa using hu), List.find?_cons_of_neg (by simpa using hu)]
    exact ih
  ·rw [List.filter_cons_of_neg (p := fun u : Upd => p u.key) hp]
   by_cases hu : u.key = q
   ·rw [ih, if_neg (by rw [← hu]; exact hp), if_neg (by rw [← hu]; exact hp)]
   ·rw [List.find?_cons_of_neg (by simpa using hu)]
    exact ih
theorem getL_nil (q : List UInt8) : getL [] q = none := rfl
theorem getL_cons (u : Upd) (l : List Upd) (q : List UInt8) : getL (u :: l) q = if u.key = q then some u else getL l q := by
 unfold getL
 by_cases h : u.key = q
 ·rw [List.find?_cons_of_pos (by simpa using h), if_pos h]
 ·rw [List.find?_cons_of_neg (by simpa using h), if_neg h]
theorem withL_mem {l : List Upd} (hr : Rising Upd.key l) {u x : Upd} (h : x ∈ withL l u) : x.key = u.key ∨ ∃ y ∈ l, y.key = x.key := by
 by_cases hk : x.key = u.key
 ·exact Or.inl hk
 ·have h1 := (getL_iff (withL_rising hr u) x.key x).2 ⟨h, rfl⟩
  rw [getL_with_other hr u hk] at h1
  exact Or.inr ⟨x, (getL_mem h1).1, rfl⟩
structure FoldOk (P : List UInt8 → Prop) (us : List Upd) : Prop where
 rise : Rising Upd.key us
 tm : ∀ u ∈ us, Tm u
 key : ∀ u ∈ us, P u.key
theorem FoldOk.step {P : List UInt8 → Prop} {us : List Upd} (h : FoldOk P us) {u : Upd} (hu : Tm u) (hp : P u.key) : FoldOk P (withL us u) :=
 ⟨withL_rising h.rise u, withL_tm h.rise h.tm u hu, fun x hx => by
  rcases withL_mem h.rise hx with e | ⟨y, hy, e⟩
  ·rw [e]; exact hp
  ·rw [← e]; exact h.key y hy⟩
theorem FoldOk.fold {P : List UInt8 → Prop} : ∀ (l us : List Upd), FoldOk P us → (∀ u ∈ l, Tm u) → (∀ u ∈ l, P u.key) → FoldOk P (l.foldl withL us)
 | [], _, h, _, _ => h
 | u :: l, us, h, h1, h2 => FoldOk.fold l (withL us u) (h.step (h1 u (by simp)) (h2 u (by simp))) (fun x hx => h1 x (List.mem_cons_of_mem _ hx)) (fun x hx => h2 x (List.mem_cons_of_mem _ hx))
theorem fold_len : ∀ (l us : List Upd), Rising Upd.key us → (l.foldl withL us).length ≤ us.length + l.length
 | [], _, _ => by simp
 | u :: l, us, h => by
  have h1 := fold_len l (withL us u) (withL_rising h u)
  have h2 := withL_len h u
  simp only [List.foldl_cons, List.length_cons]
  omega
def joinO (o n : Option Upd) : Option Upd := match n with | none => o | some u => some (match o with | none => u | some f => joinL f u)
theorem getL_fold : ∀ (l us : List Upd), Rising Upd.key us → (l.map Upd.key).Nodup → ∀ q, getL (l.foldl withL us) q = joinO (getL us q) (getL l q)
 | [], us, _, _, q => rfl
 | u :: l, us, hr, hn, q => by
  rw [List.map_cons, List.nodup_cons] at hn
  rw [List.foldl_cons, getL_fold l (withL us u) (withL_rising hr u) hn.2 q, getL_cons]
  by_cases hu : u.key = q
  ·subst hu
   have h0 : getL l u.key = none := by
    cases h : getL l u.key with
    | none => rfl
    | some x => exact absurd (List.mem_map.2 ⟨x, (getL_mem h).1, (getL_mem h).2⟩) hn.1
   rw [h0, if_pos rfl, getL_with hr u]
   rfl
  ·rw [if_neg hu, getL_with_other hr u (fun e => hu e.symm)]
def opt2 (r : List UInt8 × Bool) : Option (List UInt8) := if r.2 = true then some r.1 else none
theorem actE_none {u : Upd} (h : u.check = 0) : actE u none = opt2 (onL [] false u) := by
 unfold actE
 rw [if_neg (by rw [h]; simp)]
 rfl
theorem actE_some {u : Upd} (h : u.check = 0) (v : List UInt8) : actE u (some v) = opt2 (onL v true u) := by
 unfold actE
 rw [if_neg (by rw [h]; simp)]
 rfl
theorem actE_opt {u : Upd} (h : u.check = 0) (v : List UInt8) (th : Bool) : actE u (opt2 (v, th)) = opt2 (onL v th u) := by
 cases th with
 | true => exact actE_some h v
 | false =>
  rw [show opt2 (v, false) = none from rfl, actE_none h]
  have := onL_there v false u
  simp only [Bool.false_eq_true, if_false] at this
  rw [this]
theorem actE_join {f u : Upd} (hf : Tm f) (hu : Tm u) (x : Option (List UInt8)) : actE (joinL f u) x = actE u (actE f x) := by
 cases x with
 | none => rw [actE_none (joinL_tm hf hu).check, actE_none hf.check, onL_join hf hu, ← actE_opt hu.check]
 | some v => rw [actE_some (joinL_tm hf hu).check, actE_some hf.check, onL_join hf hu, ← actE_opt hu.check]
theorem actO_join {o n : Option Upd} (ho : ∀ u, o = some u → Tm u) (hn : ∀ u, n = some u → Tm u) (x : Option (List UInt8)) : actO (joinO o n) x = actO n (actO o x) := by
 cases n with
 | none => rfl
 | some u =>
  cases o with
  | none => rfl
  | some f => exact actE_join (ho f rfl) (hn u rfl) x
theorem opt2_some {r : List UInt8 × Bool} {y : List UInt8} (h : opt2 r = some y) : y = r.1 := by
 unfold opt2 at h
 split at h
 ·exact (Option.some.inj h).symm
 ·cases h
theorem actE_len {u : Upd} (hu : Tm u) {x : Option (List UInt8)} (hx : ∀ v, x = some v → v.length ≤ 20) {y : List UInt8} (h : actE u x = some y) : y.length ≤ 20 := by
 cases x with
 | none =>
  rw [actE_none hu.check] at h
  rw [opt2_some h]
  exact onL_len _ _ _ _ (by simp) hu.vlen (by omega)
 | some v =>
  rw [actE_some hu.check] at h
  rw [opt2_some h]
  exact onL_len _ _ _ _ (hx v rfl) hu.vlen (by omega)
def gv : Nat → Vt → List Upd → Vt
 | 0, v, l => { v with es := onAll v.es l }
 | _ + 1, v, l => { v with us := l.foldl withL v.us }
structure Given (lo hi : List UInt8) (l : List Upd) : Prop where
 rise : Rising Upd.key l
 ok : ∀ u ∈ l, Tm u ∧ withinB u.key lo hi = true
theorem Ok.rise0 {lo hi : List UInt8} {v : Vt} (h : Ok 0 lo hi v) : Rising Ent.key v.es := h.2.2.1
theorem Ok.ent {lo hi : List UInt8} {v : Vt} (h : Ok 0 lo hi v) : ∀ e ∈ v.es, EntOk e := fun e he => (h.2.2.2 e he).1
theorem Ok.fine {lo hi : List UInt8} {v : Vt} (h : Ok 0 lo hi v) : FineE v.es := EntOk.fine h.ent
theorem onAll_act (l : List Ent) (hr : Rising Ent.key l) (hf : FineE l) (us : List Upd) (hn : (us.map Upd.key).Nodup) (k : List UInt8) : lookE (onAll l us) k = actO (getL us k) (lookE l k) := by
 rw [onAll_look l hr hf us hn k]
 unfold getL
 cases us.find? (fun u => u.key == k) <;> rfl
theorem gv_den : ∀ {n : Nat} {lo hi : List UInt8} {v : Vt} {l : List Upd}, Ok n lo hi v → Given lo hi l → ∀ q, den n (gv n v l) q = actO (getL l q) (den n v q)
 | 0, lo, hi, v, l, h, hl, q => by
  rw [den_zero, den_zero, gv, onAll_act v.es h.rise0 h.fine l (rising_nodup hl.rise) q]
 | n + 1, lo, hi, v, l, h, hl, q => by
  obtain ⟨-, h1, h2, -⟩ := h
  rw [den_succ, den_succ, gv, getL_fold l v.us h1 (rising_nodup hl.rise) q, actO_join]
  ·exact fun u hu => (h2 u (getL_mem hu).1).1
  ·exact fun u hu => (hl.ok u (getL_mem hu).1).1
theorem gv_ok : ∀ {n : Nat} {lo hi : List UInt8} {v : Vt} {l : List Upd}, Ok n lo hi v → Given lo hi l → Ok n lo hi (gv n v l)
 | 0, lo, hi, v, l, h, hl => by
  obtain ⟨h0, h1, h2, h3⟩ := h
  have hA := onAll_ok v.es h2 (EntOk.fine fun e he => (h3 e he).1) l
  refine ⟨h0, h1, hA.1, fun e he => ?_⟩
  have hk := lookE_mem hA.1 e he
  rw [onAll_act v.es h2 (EntOk.fine fun e he => (h3 e he).1) l (rising_nodup hl.rise)] at hk
  have hk' : actO (getL l e.key) (lookE v.es e.key) = some e.val := hk
  cases hg : getL l e.key with
  | none =>
   rw [hg] at hk'
   exact h3 ⟨e.key, e.val⟩ (mem_lookE hk')
  | some u =>
   rw [hg] at hk'
   obtain ⟨hm, hke⟩ := getL_mem hg
   obtain ⟨ht, hw⟩ := hl.ok u hm
   refine ⟨⟨by rw [← hke]; exact ht.kpos, by rw [← hke]; exact ht.klen, actE_len ht (fun x hx => (h3 _ (mem_lookE hx)).1.vlen) hk'⟩, by rw [← hke]; exact hw⟩
 | n + 1, lo, hi, v, l, h, hl => by
  obtain ⟨h0, h1, h2, h3⟩ := h
  have hF := FoldOk.fold (P := fun k => withinB k lo hi = true) l v.us ⟨h1, fun u hu => (h2 u hu).1, fun u hu => (h2 u hu).2⟩ (fun u hu => (hl.ok u hu).1) (fun u hu => (hl.ok u hu).2)
  exact ⟨h0, hF.rise, fun u hu => ⟨hF.tm u hu, hF.key u hu⟩, h3⟩
def hdL (D : List (Chd × Vt)) : List UInt8 := match D with | [] => [] | y :: _ => lw y
def loA (lo : List UInt8) (A : List (Chd × Vt)) (c : Chd) : List UInt8 := match A with | [] => lo | _ :: _ => c.low
def hiD (hi : List UInt8) (D : List (Chd × Vt)) : List UInt8 := match D with | [] => hi | y :: _ => lw y
structure Mid (R : List UInt8 → List UInt8 → Vt → Prop) (hi lo : List UInt8) (A : List (Chd × Vt)) (c : Chd) (t : Vt) (D : List (Chd × Vt)) : Prop where
 a : A = [] ∨ (bl lo c.low = true ∧ under c.low hi ∧ OkK R c.low lo A)
 d : D = [] ∨ (bl (loA lo A c) (hdL D) = true ∧ under (hdL D) hi ∧ OkK R hi (hdL D) D)
 t : R (loA lo A c) (hiD hi D) t
theorem OkK.mid {R : List UInt8 → List UInt8 → Vt → Prop} {hi lo : List UInt8} {A : List (Chd × Vt)} {c : Chd} {t : Vt} {D : List (Chd × Vt)} (h : OkK R hi lo (A ++ (c, t) :: D)) : Mid R hi lo A c t D := by
 cases A with
 | nil =>
  cases D with
  | nil => exact ⟨Or.inl rfl, Or.inl rfl, h⟩
  | cons y D => exact ⟨Or.inl rfl, Or.inr ⟨h.1, h.2.1, h.2.2.2⟩, h.2.2.1⟩
 | cons x A =>
  obtain ⟨h1, h2, h3, h4⟩ := (OkK.append (by simp)).1 h
  cases D with
  | nil => exact ⟨Or.inr ⟨h1, h2, h3⟩, Or.inl rfl, h4⟩
  | cons y D => exact ⟨Or.inr ⟨h1, h2, h3⟩, Or.inr ⟨h4.1, h4.2.1, h4.2.2.2⟩, h4.2.2.1⟩
theorem Mid.put {R : List UInt8 → List UInt8 → Vt → Prop} {hi lo : List UInt8} {A : List (Chd × Vt)} {c : Chd} {t : Vt} {D : List (Chd × Vt)} (h : Mid R hi lo A c t D) {Q : List (Chd × Vt)} (hq : hdL Q = c.low) (hQ : OkK R (hiD hi D) (loA lo A c) Q) : OkK R hi lo (A ++ (Q ++ D)) := by
 have hne := hQ.ne
 obtain ⟨x, Q', rfl⟩ : ∃ x Q', Q = x :: Q' := by cases Q with | nil => exact absurd rfl hne | cons x Q' => exact ⟨x, Q', rfl⟩
 have hQD : OkK R hi (loA lo A c) ((x :: Q') ++ D) := by
  rcases h.d with rfl | ⟨h1, h2, h3⟩
  ·rw [List.append_nil]; exact hQ
  ·cases D with
   | nil => exact absurd h3 id
   | cons y D => exact (OkK.append (by simp)).2 ⟨h1, h2, hQ, h3⟩
 rcases h.a with rfl | ⟨h1, h2, h3⟩
 ·exact hQD
 ·cases A with
  | nil => exact absurd h3 id
  | cons z A =>
   have e : lw x = c.low := hq
   refine (OkK.append (y := x) (D := Q' ++ D) (by simp)).2 ⟨by rw [e]; exact h1, by rw [e]; exact h2, by rw [e]; exact h3, ?_⟩
   rw [e]
   exact hQD
theorem Mid.set {R : List UInt8 → List UInt8 → Vt → Prop} {hi lo : List UInt8} {A : List (Chd × Vt)} {c : Chd} {t t' : Vt} {D : List (Chd × Vt)} (h : Mid R hi lo A c t D) (ht : R (loA lo A c) (hiD hi D) t') : OkK R hi lo (A ++ (c, t') :: D) :=
 h.put (Q := [(c, t')]) rfl ht
theorem OkK.below {R : List UInt8 → List UInt8 → Vt → Prop} {hi : List UInt8} : ∀ {A : List (Chd × Vt)} {lo : List UInt8}, OkK R hi lo A → hi ≠ [] → (∀ x, A[0]? = some x → bl (lw x) hi = true) → ∀ a ∈ A, bl (lw a) hi = true
 | [], _, h, _, _ => absurd h id
 | [x], _, _, _, hx => fun a ha => by rw [List.mem_singleton] at ha; rw [ha]; exact hx x rfl
 | x :: y :: r, lo, h, hne, hx => fun a ha => by
  rcases List.mem_cons.1 ha with rfl | ha
  ·exact hx a rfl
  ·exact OkK.below h.2.2.2 hne (fun z hz => by simp only [List.getElem?_cons_zero, Option.some.injEq] at hz; rw [← hz]; exact h.2.1.elim (fun e => absurd e hne) id) a ha
theorem Mid.ahead {R : List UInt8 → List UInt8 → Vt → Prop} {hi lo : List UInt8} {A : List (Chd × Vt)} {c : Chd} {t : Vt} {D : List (Chd × Vt)} (h : Mid R hi lo A c t D) (h0 : ∀ x, A[0]? = some x → lw x = []) : ∀ a ∈ A, bl (lw a) c.low = true := by
 rcases h.a with rfl | ⟨h1, h2, h3⟩
 ·intro a ha; simp at ha
 ·exact OkK.below h3 (bl_ne_nil h1) fun x hx => by rw [h0 x hx]; exact bl_pos (bl_ne_nil h1)
theorem Mid.behind {R : List UInt8 → List UInt8 → Vt → Prop} {hi lo : List UInt8} {A : List (Chd × Vt)} {c : Chd} {t : Vt} {y : Chd × Vt} {D : List (Chd × Vt)} (h : Mid R hi lo A c t (y :: D)) : bl (loA lo A c) (lw y) = true ∧ under (lw y) hi := by
 rcases h.d with h | ⟨h1, h2, -⟩
 ·cases h
 ·exact ⟨h1, h2⟩
theorem denK_put {n : Nat} {R : List UInt8 → List UInt8 → Vt → Prop} {hi lo : List UInt8} {A : List (Chd × Vt)} {c : Chd} {t : Vt} {D : List (Chd × Vt)} (h : Mid R hi lo A c t D) (h0 : ∀ x, A[0]? = some x → lw x = []) (hA0 : A = [] → c.low = []) {Q : List (Chd × Vt)} (hne : Q ≠ []) (hq : hdL Q = c.low) (hQD : ∀ y D', D = y :: D' → ∀ a ∈ Q, bl (lw a) (lw y) = true) (q : List UInt8) :
  denK n (A ++ (Q ++ D)) q = if withinB q c.low (hdL D) = true then denK n Q q else denK n (A ++ (c, t) :: D) q := by
 have hah := h.ahead h0
 obtain ⟨x, Q', rfl⟩ : ∃ x Q', Q = x :: Q' := by cases Q with | nil => exact absurd rfl hne | cons x Q' => exact ⟨x, Q', rfl⟩
 have e : lw x = c.low := hq
 have hQ : denK n ((x :: Q') ++ D) q = if under q (hdL D) then denK n (x :: Q') q else denK n D q := by
  cases D with
  | nil => rw [List.append_nil, if_pos (show under q (hdL []) from Or.inl rfl)]
  | cons y D =>
   rw [denK_append n (x :: Q') y D q (by simp) (hQD y D rfl)]
   have hy : lw y ≠ [] := bl_ne_nil h.behind.1
   by_cases hb : bl q (lw y) = true
   ·rw [if_pos hb, if_pos (show under q (hdL (y :: D)) from Or.inr hb)]
   ·rw [if_neg hb, if_neg (show ¬ under q (hdL (y :: D)) from fun hu => hu.elim hy hb)]
 have hc : denK n ((c, t) :: D) q = if under q (hdL D) then den n t q else denK n D q := by
  cases D with
  | nil => rw [if_pos (show under q (hdL []) from Or.inl rfl)]; rfl
  | cons y D =>
   rw [denK_two]
   have hy : lw y ≠ [] := bl_ne_nil h.behind.1
   by_cases hb : bl q (lw y) = true
   ·rw [if_pos hb, if_pos (show under q (hdL (y :: D)) from Or.inr hb)]
   ·rw [if_neg hb, if_neg (show ¬ under q (hdL (y :: D)) from fun hu => hu.elim hy hb)]
 cases A with
 | nil =>
  rw [List.nil_append, List.nil_append, hQ, hc]
  have hcl := hA0 rfl
  by_cases hu : under q (hdL D)
  ·rw [if_pos hu, if_pos hu, if_pos (withinB_iff.2 ⟨by rw [hcl, bl_nil], hu⟩)]
  ·rw [if_neg hu, if_neg hu, if_neg (fun hw => hu (withinB_iff.1 hw).2)]
 | cons z A =>
  rw [show (x :: Q') ++ D = x :: (Q' ++ D) from rfl, denK_append n (z :: A) x (Q' ++ D) q (by simp) (fun a ha => by rw [e]; exact hah a ha), denK_append n (z :: A) (c, t) D q (by simp) hah, e]
  by_cases hb : bl q c.low = true
  ·rw [if_pos hb, if_pos hb, if_neg (fun hw => by rw [(withinB_iff.1 hw).1] at hb; cases hb)]
  ·rw [if_neg hb, if_neg hb, show x :: (Q' ++ D) = (x :: Q') ++ D from rfl, hQ, hc]
   have hb' : bl q c.low = false := by simpa using hb
   by_cases hu : under q (hdL D)
   ·rw [if_pos hu, if_pos hu, if_pos (withinB_iff.2 ⟨hb', hu⟩)]
   ·rw [if_neg hu, if_neg hu, if_neg (fun hw => hu (withinB_iff.1 hw).2)]
theorem denK_mid {n : Nat} {R : List UInt8 → List UInt8 → Vt → Prop} {hi lo : List UInt8} {A : List (Chd × Vt)} {c : Chd} {t : Vt} {D : List (Chd × Vt)} (h : Mid R hi lo A c t D) (h0 : ∀ x, A[0]? = some x → lw x = []) (hA0 : A = [] → c.low = []) (q : List UInt8) (hq : withinB q c.low (hdL D) = true) : denK n (A ++ (c, t) :: D) q = den n t q := by
 have := denK_put (n := n) h h0 hA0 (Q := [(c, t)]) (by simp) rfl (fun y D' e a ha => by
  subst e
  rw [List.mem_singleton] at ha
  subst ha
  have hb := h.behind.1
  cases A with
  | nil => show bl c.low _ = true; rw [hA0 rfl]; exact bl_pos (bl_ne_nil hb)
  | cons z A => exact hb) q
 rw [if_pos hq] at this
 exact this
theorem denK_set {n : Nat} {R : List UInt8 → List UInt8 → Vt → Prop} {hi lo : List UInt8} {A : List (Chd × Vt)} {c : Chd} {t t' : Vt} {D : List (Chd × Vt)} (h : Mid R hi lo A c t D) (h0 : ∀ x, A[0]? = some x → lw x = []) (hA0 : A = [] → c.low = []) (q : List UInt8) :
  denK n (A ++ (c, t') :: D) q = if withinB q c.low (hdL D) = true then den n t' q else denK n (A ++ (c, t) :: D) q :=
 denK_put (n := n) h h0 hA0 (Q := [(c, t')]) (by simp) rfl (fun y D' e a ha => by
  subst e
  rw [List.mem_singleton] at ha
  subst ha
  have hb := h.behind.1
  cases A with
  | nil => show bl c.low _ = true; rw [hA0 rfl]; exact bl_pos (bl_ne_nil hb)
  | cons z A => exact hb) q
theorem loA_le {lo : List UInt8} {A : List (Chd × Vt)} {c : Chd} {R : List UInt8 → List UInt8 → Vt → Prop} {hi : List UInt8} {t : Vt} {D : List (Chd × Vt)} (h : Mid R hi lo A c t D) {q : List UInt8} (hq : withinB q lo hi = true) (hq2 : withinB q c.low (hdL D) = true) : withinB q (loA lo A c) (hiD hi D) = true := by
 rw [withinB_iff] at *
 refine ⟨?_, ?_⟩
 ·cases A with
  | nil => exact hq.1
  | cons z A => exact hq2.1
 ·cases D with
  | nil => exact hq.2
  | cons y D => exact hq2.2
theorem loA_back {lo : List UInt8} {A : List (Chd × Vt)} {c : Chd} {R : List UInt8 → List UInt8 → Vt → Prop} {hi : List UInt8} {t : Vt} {D : List (Chd × Vt)} (h : Mid R hi lo A c t D) (hA0 : A = [] → c.low = []) {q : List UInt8} (hq : withinB q (loA lo A c) (hiD hi D) = true) : withinB q lo hi = true ∧ withinB q c.low (hdL D) = true := by
 rw [withinB_iff] at hq
 rw [withinB_iff, withinB_iff]
 refine ⟨⟨?_, ?_⟩, ?_, ?_⟩
 ·rcases h.a with rfl | ⟨h1, -, -⟩
  ·exact hq.1
  ·cases A with
   | nil => exact hq.1
   | cons z A => exact bl_down hq.1 h1
 ·cases D with
  | nil => exact hq.2
  | cons y D =>
   have hy := bl_ne_nil h.behind.1
   have h2 := h.behind.2
   exact h2.lt (hq.2.elim (fun e => absurd e hy) id)
 ·cases A with
  | nil => rw [hA0 rfl, bl_nil]
  | cons z A => exact hq.1
 ·cases D with
  | nil => exact Or.inl rfl
  | cons y D => exact hq.2
open Go.RowKit
def seat (x : Chd × Vt) : Chd × Vt := (x.1, { x.2 with b := 0, mem := false })
theorem den_seat : ∀ (n : Nat) (t : Vt) (b : Nat) (m l : Bool) (k : Option Pt) (q : List UInt8), den n { t with b := b, mem := m, ld := l, kn := k } q = den n t q
 | 0, _, _, _, _, _, _ => rfl
 | _ + 1, _, _, _, _, _, _ => rfl
theorem Ok_seat : ∀ {n : Nat} {lo hi : List UInt8} {t : Vt} (b : Nat) (m l : Bool) (k : Option Pt), Ok n lo hi t → Ok n lo hi { t with b := b, mem := m, ld := l, kn := k }
 | 0, _, _, _, _, _, _, _, h => h
 | _ + 1, _, _, _, _, _, _, _, h => h
theorem Ok_back : ∀ {n : Nat} {lo hi : List UInt8} {t : Vt} {b : Nat} {m l : Bool} {k : Option Pt}, Ok n lo hi { t with b := b, mem := m, ld := l, kn := k } → Ok n lo hi t
 | 0, _, _, _, _, _, _, _, h => h
 | _ + 1, _, _, _, _, _, _, _, h => h
theorem pick_seat : ∀ (l : List (Chd × Vt)) (q : List UInt8), pick (l.map seat) q = (pick l q).map fun t => { t with b := 0, mem := false }
 | [], _ => rfl
 | [x], _ => rfl
 | x :: y :: r, q => by
  rw [List.map_cons, List.map_cons, pick_two, pick_two, ← List.map_cons, pick_seat (y :: r) q]
  show (if bl q (lw y) = true then _ else _) = _
  split <;> rfl
theorem denK_seat (n : Nat) (l : List (Chd × Vt)) (q : List UInt8) : denK n (l.map seat) q = denK n l q := by
 unfold denK
 rw [pick_seat]
 cases pick l q with
 | none => rfl
 | some t => exact den_seat n t 0 false t.ld t.kn q
theorem OkK_seat {n : Nat} {hi : List UInt8} : ∀ {l : List (Chd × Vt)} {lo : List UInt8}, OkK (Ok n) hi lo (l.map seat) ↔ OkK (Ok n) hi lo l
 | [], _ => Iff.rfl
 | [x], _ => ⟨fun h => Ok_back h, fun h => Ok_seat 0 false x.2.ld x.2.kn h⟩
 | x :: y :: r, lo => by
  rw [List.map_cons, List.map_cons, OkK.two, OkK.two, ← List.map_cons, show OkK (Ok n) hi (lw (seat y)) (List.map seat (y :: r)) ↔ OkK (Ok n) hi (lw y) (y :: r) from OkK_seat]
  exact ⟨fun h => ⟨h.1, h.2.1, Ok_back h.2.2.1, h.2.2.2⟩, fun h => ⟨h.1, h.2.1, Ok_seat 0 false x.2.ld x.2.kn h.2.2.1, h.2.2.2⟩⟩
structure Loads (v v' : Vt) : Prop where
 b : v'.b = v.b
 mem : v'.mem = v.mem
 ld : v'.ld = true
 kn : v'.kn = v.kn
 es : v'.es = v.es
 us : v'.us = v.us
 ch : v'.ch.map seat = v.ch.map seat
theorem Loads.fst {v v' : Vt} (h : Loads v v') : v'.cs = v.cs := by
 have := congrArg (List.map Prod.fst) h.ch
 rw [List.map_map, List.map_map] at this
 exact this
theorem Loads.len {v v' : Vt} (h : Loads v v') : v'.ch.length = v.ch.length := by
 have := congrArg List.length h.ch
 rwa [List.length_map, List.length_map] at this
theorem Loads.den {v v' : Vt} (h : Loads v v') : ∀ (n : Nat) (q : List UInt8), den n v' q = den n v q
 | 0, q => by rw [den_zero, den_zero, h.es]
 | n + 1, q => by rw [den_succ, den_succ, h.us, ← denK_seat, h.ch, denK_seat]
theorem fst_mem {l l' : List (Chd × Vt)} (h : l.map Prod.fst = l'.map Prod.fst) {P : Chd → Prop} (hp : ∀ x ∈ l, P x.1) : ∀ x ∈ l', P x.1 := fun x hx => by
 have : x.1 ∈ l.map Prod.fst := by rw [h]; exact List.mem_map_of_mem hx
 obtain ⟨y, hy, e⟩ := List.mem_map.1 this
 rw [← e]
 exact hp y hy
theorem fst_at {l l' : List (Chd × Vt)} (h : l.map Prod.fst = l'.map Prod.fst) {P : Chd → Prop} {i : Nat} (hp : ∀ x, l[i]? = some x → P x.1) : ∀ x, l'[i]? = some x → P x.1 := fun x hx => by
 have h2 : (l'.map Prod.fst)[i]? = some x.1 := by rw [List.getElem?_map, hx]; rfl
 rw [← h, List.getElem?_map] at h2
 cases hl : l[i]? with
 | none => rw [hl] at h2; cases h2
 | some y =>
  rw [hl] at h2
  rw [← Option.some.inj h2]
  exact hp y hl
theorem Loads.ok {v v' : Vt} (h : Loads v v') : ∀ {n : Nat} {lo hi : List UInt8}, Ok n lo hi v → Ok n lo hi v'
 | 0, lo, hi, ⟨h0, h1, h2, h3⟩ => by
  refine ⟨by rw [h.us]; exact h0, ?_, by rw [h.es]; exact h2, by rw [h.es]; exact h3⟩
  have := h.len
  rw [h1] at this
  exact List.length_eq_zero_iff.1 this
 | n + 1, lo, hi, ⟨h0, h1, h2, h3, h4, h5⟩ => by
  refine ⟨by rw [h.es]; exact h0, by rw [h.us]; exact h1, by rw [h.us]; exact h2, fst_mem (P := fun c => ChdOk c ∧ c.low.length ≤ 3) h.fst.symm h3, fst_at (P := fun c => c.low = []) h.fst.symm h4, OkK_seat.1 ?_⟩
  rw [h.ch]
  exact OkK_seat.2 h5
structure PartsQ (L : Nat) (low : List UInt8) (es : List Ent) (Q : List (Chd × Vt)) : Prop where
 all : es = Q.flatMap fun x => x.2.es
 two : 2 ≤ Q.length
 head : hdL Q = low
 new : ∀ x ∈ Q, x.1 = ⟨lw x, 0, 0, 0⟩
 leaf : ∀ x ∈ Q, x.2.us = [] ∧ x.2.ch = [] ∧ x.2.mem = true ∧ x.2.ld = true ∧ x.2.kn = none
 low : ∀ x ∈ Q.tail, ∃ e, x.2.es[0]? = some e ∧ e.key = lw x
 len : ∀ x ∈ Q, 2 ≤ x.2.es.length ∧ x.2.es.length ≤ L
structure HalfQ (F : Nat) (low : List UInt8) (t : Vt) (Q : List (Chd × Vt)) : Prop where
 ex : ∃ (X : List (Chd × Vt)) (y : Chd × Vt) (Y : List (Chd × Vt)) (ba bb : Nat), t.ch = X ++ y :: Y ∧ F < t.ch.length ∧ 2 ≤ X.length ∧ 1 ≤ Y.length ∧
  Q = [(⟨low, 0, 0, 0⟩, ⟨ba, true, true, none, [], cutIn t.us [] (lw y), X⟩), (⟨lw y, 0, 0, 0⟩, ⟨bb, true, true, none, [], cutOut t.us [] (lw y), fixHead (y :: Y)⟩)]
inductive Sm (F L : Nat) : Nat → Vt → Vt → List Int → List Nat → Prop
 | refl (n : Nat) (v : Vt) : Sm F L n v v [] []
 | trans {n : Nat} {a b c : Vt} {g g' : List Int} {h h' : List Nat} : Sm F L n a b g h → Sm F L n b c g' h' → Sm F L n a c (g ++ g') (h ++ h')
 | load {n : Nat} {v v' : Vt} : Loads v v' → Sm F L n v v' [] []
 | soil {n : Nat} {v : Vt} {p : Pt} : v.kn = some p → Sm F L n v { v with kn := none } [p.a] []
 | kid {n : Nat} {v : Vt} {A : List (Chd × Vt)} {c : Chd} {t t' : Vt} {D : List (Chd × Vt)} {g : List Int} {h : List Nat} : v.ch = A ++ (c, t) :: D → v.kn = none → Sm F L n t t' g h → Sm F L (n + 1) v { v with ch := A ++ (c, t') :: D } g h
 | kidLoad {n : Nat} {v : Vt} {A : List (Chd × Vt)} {c : Chd} {t t' : Vt} {D : List (Chd × Vt)} : v.ch = A ++ (c, t) :: D → Loads t t' → Sm F L (n + 1) v { v with ch := A ++ (c, t') :: D } [] []
 | hand {n : Nat} {v : Vt} {A : List (Chd × Vt)} {c : Chd} {t : Vt} {D : List (Chd × Vt)} : v.ch = A ++ (c, t) :: D → v.kn = none → t.kn = none → 0 < (cutIn v.us c.low (hdL D)).length → Sm F L (n + 1) v { v with us := cutOut v.us c.low (hdL D), ch := A ++ (c, gv n t (cutIn v.us c.low (hdL D))) :: D } [] [(cutIn v.us c.low (hdL D)).length]
 | parts {v : Vt} {A : List (Chd × Vt)} {c : Chd} {t : Vt} {D Q : List (Chd × Vt)} : v.ch = A ++ (c, t) :: D → v.kn = none → t.kn = none → L < t.es.length → PartsQ L c.low t.es Q → Sm F L 1 v { v with ch := fixHead (A ++ (Q ++ D)) } [] []
 | drop {v : Vt} {A : List (Chd × Vt)} {c : Chd} {t : Vt} {D : List (Chd × Vt)} : v.ch = A ++ (c, t) :: D → v.kn = none → t.kn = none → t.es = [] → A ++ D ≠ [] → Sm F L 1 v { v with ch := fixHead (A ++ D) } [] []
 | halve {n : Nat} {v : Vt} {A : List (Chd × Vt)} {c : Chd} {t : Vt} {D Q : List (Chd × Vt)} : v.ch = A ++ (c, t) :: D → v.kn = none → t.kn = none → HalfQ F c.low t Q → Sm F L (n + 2) v { v with ch := fixHead (A ++ (Q ++ D)) } [] []
theorem Given.cut {us : List Upd} {lo hi low high lo' hi' : List UInt8} (hr : Rising Upd.key us) (h : ∀ u ∈ us, Tm u ∧ withinB u.key lo hi = true) (hw : ∀ q, withinB q lo hi = true → withinB q low high = true → withinB q lo' hi' = true) : Given lo' hi' (cutIn us low high) := by
 rw [(cut_filter hr low high).1]
 exact ⟨hr.sublist List.filter_sublist, fun u hu => by
  obtain ⟨h1, h2⟩ := List.mem_filter.1 hu
  exact ⟨(h u h1).1, hw _ (h u h1).2 h2⟩⟩
theorem cutOut_given {us : List Upd} {lo hi low high lo' hi' : List UInt8} (hr : Rising Upd.key us) (h : ∀ u ∈ us, Tm u ∧ withinB u.key lo hi = true) (hw : ∀ q, withinB q lo hi = true → withinB q low high = false → withinB q lo' hi' = true) : Given lo' hi' (cutOut us low high) := by
 rw [(cut_filter hr low high).2]
 exact ⟨hr.sublist List.filter_sublist, fun u hu => by
  obtain ⟨h1, h2⟩ := List.mem_filter.1 hu
  exact ⟨(h u h1).1, hw _ (h u h1).2 (by simpa using h2)⟩⟩
theorem getL_cutIn {us : List Upd} (hr : Rising Upd.key us) (low high q : List UInt8) : getL (cutIn us low high) q = if withinB q low high = true then getL us q else none := by
 rw [(cut_filter hr low high).1]
 exact getL_filter fun k => withinB k low high
theorem getL_cutOut {us : List Upd} (hr : Rising Upd.key us) (low high q : List UInt8) : getL (cutOut us low high) q = if withinB q low high = true then none else getL us q := by
 rw [(cut_filter hr low high).2, getL_filter fun k => !withinB k low high]
 cases withinB q low high <;> rfl
theorem den_out {lo hi : List UInt8} {t : Vt} (h : Ok 0 lo hi t) {q : List UInt8} (hq : withinB q lo hi = false) : den 0 t q = none := by
 rw [den_zero]
 cases hl : lookE t.es q with
 | none => rfl
 | some x =>
  have := (h.2.2.2 _ (mem_lookE hl)).2
  rw [hq] at this
  cases this
theorem denK_out {hi : List UInt8} : ∀ {A : List (Chd × Vt)} {lo : List UInt8}, OkK (Ok 0) hi lo A → ∀ {q : List UInt8}, hi ≠ [] → bl q hi = false → denK 0 A q = none
 | [], _, h, _, _, _ => absurd h id
 | [x], lo, h, q, hne, hq => den_out h (by
  cases hw : withinB q lo hi with
  | false => rfl
  | true =>
   have := (withinB_iff.1 hw).2.elim (fun e => absurd e hne) id
   rw [hq] at this
   cases this)
 | x :: y :: r, lo, h, q, hne, hq => by
  rw [denK_two]
  have hy : bl (lw y) hi = true := h.2.1.elim (fun e => absurd e hne) id
  rw [if_neg (by rw [bl_down hq hy]; simp)]
  exact denK_out h.2.2.2 hne hq
theorem denK_low {hi : List UInt8} {y : Chd × Vt} {r : List (Chd × Vt)} (h : OkK (Ok 0) hi (lw y) (y :: r)) {q : List UInt8} (hq : bl q (lw y) = true) : denK 0 (y :: r) q = none := by
 cases r with
 | nil =>
  exact den_out h (by
   cases hw : withinB q (lw y) hi with
   | false => rfl
   | true => rw [(withinB_iff.1 hw).1] at hq; cases hq)
 | cons z r =>
  obtain ⟨h1, -, h3, -⟩ := h
  rw [denK_two, if_pos (bl_trans hq h1)]
  exact den_out h3 (by
   cases hw : withinB q (lw y) (lw z) with
   | false => rfl
   | true => rw [(withinB_iff.1 hw).1] at hq; cases hq)
theorem drop_ok {hi lo : List UInt8} {A : List (Chd × Vt)} {c : Chd} {t : Vt} {D : List (Chd × Vt)} (h : OkK (Ok 0) hi lo (A ++ (c, t) :: D)) (hne : A ++ D ≠ []) (hwid : ∀ {lo hi lo' hi' : List UInt8} {v : Vt}, Ok 0 lo hi v → (∀ q, withinB q lo hi = true → withinB q lo' hi' = true) → Ok 0 lo' hi' v) : OkK (Ok 0) hi lo (A ++ D) := by
 have hm := h.mid
 cases A with
 | nil =>
  cases D with
  | nil => exact absurd rfl hne
  | cons y D =>
   obtain ⟨h1, h2, h3⟩ := hm.d.resolve_left (by simp)
   cases D with
   | nil => exact hwid (v := y.2) h3 fun q hq => withinB_iff.2 ⟨bl_down (withinB_iff.1 hq).1 h1, (withinB_iff.1 hq).2⟩
   | cons z D =>
    obtain ⟨k1, k2, k3, k4⟩ := h3
    exact ⟨bl_trans h1 k1, k2, hwid k3 fun q hq => withinB_iff.2 ⟨bl_down (withinB_iff.1 hq).1 h1, (withinB_iff.1 hq).2⟩, k4⟩
 | cons x A =>
  obtain ⟨h1, h2, h3⟩ := hm.a.resolve_left (by simp)
  cases D with
  | nil =>
   rw [List.append_nil]
   clear hm h hne
   generalize x :: A = A at *
   induction A generalizing lo with
   | nil => exact absurd h3 id
   | cons z A ih =>
    cases A with
    | nil => exact hwid (v := z.2) h3 fun q hq => withinB_iff.2 ⟨(withinB_iff.1 hq).1, h2.lt ((withinB_iff.1 hq).2.elim (fun e => absurd e (bl_ne_nil h1)) id)⟩
    | cons y A =>
     obtain ⟨k1, k2, k3, k4⟩ := h3
     have k2' := k2.elim (fun e => absurd e (bl_ne_nil h1)) id
     exact ⟨k1, h2.lt k2', k3, ih k2' k4⟩
  | cons y D =>
   obtain ⟨g1, g2, g3⟩ := hm.d.resolve_left (by simp)
   have g1' : bl c.low (lw y) = true := g1
   refine (OkK.append (by simp)).2 ⟨bl_trans h1 g1', g2, ?_, g3⟩
   clear hm h hne g3 g1 g2
   generalize x :: A = A at *
   induction A generalizing lo with
   | nil => exact absurd h3 id
   | cons z A ih =>
    cases A with
    | nil => exact hwid (v := z.2) h3 fun q hq => withinB_iff.2 ⟨(withinB_iff.1 hq).1, Or.inr (bl_trans ((withinB_iff.1 hq).2.elim (fun e => absurd e (bl_ne_nil h1)) id) g1')⟩
    | cons y' A =>
     obtain ⟨k1, k2, k3, k4⟩ := h3
     have k2' := k2.elim (fun e => absurd e (bl_ne_nil h1)) id
     exact ⟨k1, Or.inr (bl_trans k2' g1'), k3, ih k2' k4⟩
theorem Ok.wide {lo hi lo' hi' : List UInt8} {v : Vt} (h : Ok 0 lo hi v) (k : ∀ q, withinB q lo hi = true → withinB q lo' hi' = true) : Ok 0 lo' hi' v :=
 ⟨h.1, h.2.1, h.2.2.1, fun e he => ⟨(h.2.2.2 e he).1, k _ (h.2.2.2 e he).2⟩⟩
theorem drop_den {hi lo : List UInt8} {A : List (Chd × Vt)} {c : Chd} {t : Vt} {D : List (Chd × Vt)} (h : OkK (Ok 0) hi lo (A ++ (c, t) :: D)) (h0 : ∀ x, A[0]? = some x → lw x = []) (hA0 : A = [] → c.low = []) (hne : A ++ D ≠ []) (he : t.es = []) (q : List UInt8) : denK 0 (A ++ D) q = denK 0 (A ++ (c, t) :: D) q := by
 have hm := h.mid
 have hah := hm.ahead h0
 by_cases hw : withinB q c.low (hdL D) = true
 ·rw [denK_mid hm h0 hA0 q hw, den_zero, he]
  obtain ⟨hq1, hq2⟩ := withinB_iff.1 hw
  cases A with
  | nil =>
   cases D with
   | nil => exact absurd rfl hne
   | cons y D =>
    obtain ⟨h1, h2, h3⟩ := hm.d.resolve_left (by simp)
    exact denK_low h3 (hq2.elim (fun e => absurd e (bl_ne_nil h1)) id)
  | cons x A =>
   obtain ⟨h1, h2, h3⟩ := hm.a.resolve_left (by simp)
   cases D with
   | nil => rw [List.append_nil]; exact denK_out h3 (bl_ne_nil h1) hq1
   | cons y D =>
    obtain ⟨g1, g2, g3⟩ := hm.d.resolve_left (by simp)
    rw [denK_append 0 (x :: A) y D q (by simp) (fun a ha => bl_trans (hah a ha) g1), if_pos (show bl q (lw y) = true from hq2.elim (fun e => absurd e (bl_ne_nil g1)) id)]
    exact denK_out h3 (bl_ne_nil h1) hq1
 ·cases A with
  | nil =>
   cases D with
   | nil => exact absurd rfl hne
   | cons y D =>
    rw [List.nil_append, List.nil_append, denK_two, if_neg]
    intro hb
    exact hw (withinB_iff.2 ⟨by rw [hA0 rfl, bl_nil], Or.inr hb⟩)
  | cons x A =>
   rw [denK_append 0 (x :: A) (c, t) D q (by simp) hah]
   cases D with
   | nil =>
    have hq : bl q c.low = true := by
     cases hb : bl q c.low with
     | true => rfl
     | false => exact absurd (withinB_iff.2 ⟨hb, Or.inl rfl⟩) hw
    rw [List.append_nil, if_pos hq]
   | cons y D =>
    obtain ⟨g1, g2, g3⟩ := hm.d.resolve_left (by simp)
    have g1' : bl c.low (lw y) = true := g1
    rw [denK_append 0 (x :: A) y D q (by simp) (fun a ha => bl_trans (hah a ha) g1'), denK_two]
    by_cases hb : bl q c.low = true
    ·rw [if_pos hb, if_pos (bl_trans hb g1')]
    ·rw [if_neg hb]
     by_cases hy : bl q (lw y) = true
     ·exact absurd (withinB_iff.2 ⟨by simpa using hb, Or.inr hy⟩) hw
     ·rw [if_neg hy, if_neg hy]
open Go.RowKit
theorem lookE_append (a b : List Ent) (q : List UInt8) : lookE (a ++ b) q = match lookE a q with | some x => some x | none => lookE b q := by
 induction a with
 | nil => rfl
 | cons e a ih =>
  rw [List.cons_append, lookE_cons, lookE_cons, ih]
  by_cases h : e.key = q
  ·rw [if_pos h, if_pos h]
  ·rw [if_neg h, if_neg h]
theorem lookE_above {l : List Ent} {k : List UInt8} (h : ∀ e ∈ l, bl e.key k = false) {q : List UInt8} (hq : bl q k = true) : lookE l q = none := by
 cases hl : lookE l q with
 | none => rfl
 | some x => have := h _ (mem_lookE hl); rw [show bl q k = false from this] at hq; cases hq
theorem lookE_under {l : List Ent} {k : List UInt8} (h : ∀ e ∈ l, bl e.key k = true) {q : List UInt8} (hq : bl q k = false) : lookE l q = none := by
 cases hl : lookE l q with
 | none => rfl
 | some x => have := h _ (mem_lookE hl); rw [show bl q k = true from this] at hq; cases hq
theorem parts_good {hi : List UInt8} : ∀ (Q : List (Chd × Vt)) (lo : List UInt8), Q ≠ [] → (∀ x ∈ Q, x.2.us = [] ∧ x.2.ch = [] ∧ x.2.es ≠ []) → (∀ x ∈ Q.tail, ∃ e, x.2.es[0]? = some e ∧ e.key = lw x) → Rising Ent.key (Q.flatMap fun x => x.2.es) → (∀ e ∈ Q.flatMap fun x => x.2.es, EntOk e ∧ withinB e.key lo hi = true) →
  OkK (Ok 0) hi lo Q ∧ ∀ q, denK 0 Q q = lookE (Q.flatMap fun x => x.2.es) q
 | [], _, h, _, _, _, _ => absurd rfl h
 | [x], lo, _, h1, _, h3, h4 => by
  simp only [List.flatMap_cons, List.flatMap_nil, List.append_nil] at h3 h4 ⊢
  obtain ⟨k1, k2, -⟩ := h1 x (by simp)
  exact ⟨⟨k1, k2, h3, h4⟩, fun q => rfl⟩
 | x :: y :: r, lo, _, h1, h2, h3, h4 => by
  rw [List.flatMap_cons] at h3 h4 ⊢
  obtain ⟨k1, k2, k3⟩ := h1 x (by simp)
  obtain ⟨e, he, hk⟩ := h2 y (by simp)
  have hr := List.pairwise_append.1 h3
  have hem : e ∈ (y :: r).flatMap fun x => x.2.es := by
   rw [List.flatMap_cons]
   exact List.mem_append_left _ (List.mem_of_getElem? he)
  have hx : ∀ z ∈ x.2.es, bl z.key (lw y) = true := fun z hz => by rw [← hk]; exact hr.2.2 z hz e hem
  have hy : ∀ z ∈ (y :: r).flatMap fun x => x.2.es, bl z.key (lw y) = false := fun z hz => by
   rw [← hk]
   have hye : ∃ t, y.2.es = e :: t := by
    cases hh : y.2.es with
    | nil => rw [hh] at he; simp at he
    | cons e' t => rw [hh] at he; simp only [List.getElem?_cons_zero, Option.some.injEq] at he; exact ⟨t, by rw [he]⟩
   obtain ⟨t, hye⟩ := hye
   have h5 := hr.2.1
   rw [List.flatMap_cons, hye, List.cons_append, List.pairwise_cons] at h5
   rw [List.flatMap_cons, hye, List.cons_append] at hz
   rcases List.mem_cons.1 hz with rfl | hz
   ·exact bl_irrefl _
   ·exact bl_asymm (h5.1 z hz)
  obtain ⟨z, hz⟩ : ∃ z, z ∈ x.2.es := by
   cases hh : x.2.es with
   | nil => exact absurd hh k3
   | cons e' t => exact ⟨e', by simp⟩
  have hlo : bl lo (lw y) = true := by
   have h6 := (withinB_iff.1 (h4 z (List.mem_append_left _ hz)).2).1
   rcases bl_not h6 with e1 | h7
   ·rw [e1]; exact hx z hz
   ·exact bl_trans h7 (hx z hz)
  have hun : under (lw y) hi := by rw [← hk]; exact (withinB_iff.1 (h4 e (List.mem_append_right _ hem)).2).2
  obtain ⟨i1, i2⟩ := parts_good (y :: r) (lw y) (by simp) (fun z hz => h1 z (List.mem_cons_of_mem _ hz)) (fun z hz => h2 z (by rw [List.tail_cons] at hz ⊢; exact List.mem_cons_of_mem _ hz)) hr.2.1 (fun z hz => ⟨(h4 z (List.mem_append_right _ hz)).1, withinB_iff.2 ⟨hy z hz, (withinB_iff.1 (h4 z (List.mem_append_right _ hz)).2).2⟩⟩)
  refine ⟨⟨hlo, hun, ⟨k1, k2, hr.1, fun z hz => ⟨(h4 z (List.mem_append_left _ hz)).1, withinB_iff.2 ⟨(withinB_iff.1 (h4 z (List.mem_append_left _ hz)).2).1, Or.inr (hx z hz)⟩⟩⟩, i1⟩, fun q => ?_⟩
  rw [denK_two, i2, lookE_append, den_zero]
  cases hq : bl q (lw y) with
  | true =>
   rw [lookE_above hy hq]
   cases lookE x.2.es q <;> rfl
  | false => rw [lookE_under hx hq]; simp
theorem PartsQ.good {L : Nat} {c : List UInt8} {t : Vt} {Q : List (Chd × Vt)} {lo hi : List UInt8} (h : PartsQ L c t.es Q) (ht : Ok 0 lo hi t) : OkK (Ok 0) hi lo Q ∧ ∀ q, denK 0 Q q = den 0 t q := by
 have := parts_good (hi := hi) Q lo (fun e => by have := h.two; rw [e] at this; simp at this) (fun x hx => ⟨(h.leaf x hx).1, (h.leaf x hx).2.1, fun e => by have := (h.len x hx).1; rw [e] at this; simp at this⟩) h.low (by rw [← h.all]; exact ht.2.2.1) (by rw [← h.all]; exact ht.2.2.2)
 rw [← h.all] at this
 exact this
theorem getElem?_append_first {α : Type} {X Y : List α} (h : X ≠ []) : (X ++ Y)[0]? = X[0]? := by
 cases X with
 | nil => exact absurd rfl h
 | cons x X => rfl
theorem HalfQ.good {F n : Nat} {c : List UInt8} {t : Vt} {Q : List (Chd × Vt)} {lo hi : List UInt8} (h : HalfQ F c t Q) (ht : Ok (n + 1) lo hi t) : OkK (Ok (n + 1)) hi lo Q ∧ ∀ q, denK (n + 1) Q q = den (n + 1) t q := by
 obtain ⟨X, y, Y, ba, bb, e, -, hX, -, rfl⟩ := h.ex
 obtain ⟨t1, t2, t3, t4, t5, t6⟩ := ht
 rw [e] at t4 t5 t6
 have hne : X ≠ [] := fun e => by rw [e] at hX; simp at hX
 obtain ⟨g1, g2, g3, g4⟩ := (OkK.append hne).1 t6
 have hyne := bl_ne_nil g1
 have hXl : ∀ a ∈ X, bl (lw a) (lw y) = true := OkK.below g3 hyne fun x hx => by
  rw [t5 x (by rw [getElem?_append_first hne]; exact hx)]
  exact bl_pos hyne
 refine ⟨⟨g1, g2, ⟨rfl, ?_, ?_, fun x hx => t4 x (List.mem_append_left _ hx), fun x hx => t5 x (by rw [getElem?_append_first hne]; exact hx), g3⟩, ⟨rfl, ?_, ?_, fixHead_ok fun x hx => t4 x (List.mem_append_right _ hx), fixHead_first (y :: Y), (OkK_fix (y :: Y)).2 g4⟩⟩, fun q => ?_⟩
 ·exact (Given.cut (lo' := []) (hi' := []) t2 t3 (fun q _ _ => withinB_iff.2 ⟨bl_nil q, Or.inl rfl⟩)).rise
 ·exact (Given.cut (lo' := lo) (hi' := lw y) t2 t3 (fun q h1 h2 => withinB_iff.2 ⟨(withinB_iff.1 h1).1, (withinB_iff.1 h2).2⟩)).ok
 ·exact (cutOut_given (lo' := []) (hi' := []) t2 t3 (fun q _ _ => withinB_iff.2 ⟨bl_nil q, Or.inl rfl⟩)).rise
 ·refine (cutOut_given (lo' := lw y) (hi' := hi) t2 t3 (fun q h1 h2 => withinB_iff.2 ⟨?_, (withinB_iff.1 h1).2⟩)).ok
  cases hb : bl q (lw y) with
  | false => rfl
  | true => rw [withinB_iff.2 ⟨bl_nil q, Or.inr hb⟩] at h2; cases h2
 ·rw [denK_two, denK_one, den_succ, den_succ, den_succ, e, denK_append n X y Y q hne hXl]
  dsimp only
  rw [getL_cutIn t2, getL_cutOut t2, denK_fix]
  have hw : withinB q [] (lw y) = bl q (lw y) := by
   rw [Bool.eq_iff_iff, withinB_iff]
   exact ⟨fun h => h.2.elim (fun e => absurd e hyne) id, fun h => ⟨bl_nil q, Or.inr h⟩⟩
  rw [hw]
  cases bl q (lw y) <;> rfl
theorem HalfQ.new {F : Nat} {c : List UInt8} {t : Vt} {Q : List (Chd × Vt)} (h : HalfQ F c t Q) : ∃ a b y, Q = [(⟨c, 0, 0, 0⟩, a), (⟨y, 0, 0, 0⟩, b)] ∧ ∃ x ∈ t.ch, lw x = y := by
 obtain ⟨X, y, Y, ba, bb, e, -, -, -, rfl⟩ := h.ex
 exact ⟨_, _, _, rfl, y, by rw [e]; simp, rfl⟩
theorem chd_new {l : List UInt8} (h : l.length ≤ 3) : ChdOk ⟨l, 0, 0, 0⟩ ∧ (⟨l, 0, 0, 0⟩ : Chd).low.length ≤ 3 := ⟨⟨by show l.length ≤ 16; omega, by simp, by simp, by simp⟩, h⟩
theorem PartsQ.chd {L : Nat} {c : Chd} {t : Vt} {Q : List (Chd × Vt)} {lo hi : List UInt8} (h : PartsQ L c.low t.es Q) (ht : Ok 0 lo hi t) (hc : c.low.length ≤ 3) : ∀ x ∈ Q, ChdOk x.1 ∧ x.1.low.length ≤ 3 := fun x hx => by
 have hl : (lw x).length ≤ 3 := by
  cases Q with
  | nil => simp at hx
  | cons z Q =>
   rcases List.mem_cons.1 hx with rfl | hx'
   ·rw [show lw x = c.low from h.head]; exact hc
   ·obtain ⟨e, he, hk⟩ := h.low x hx'
    rw [← hk]
    refine (ht.ent e ?_).klen
    rw [h.all]
    exact List.mem_flatMap.2 ⟨x, hx, List.mem_of_getElem? he⟩
 rw [h.new x hx]
 exact chd_new hl
theorem HalfQ.chd {F n : Nat} {c : Chd} {t : Vt} {Q : List (Chd × Vt)} {lo hi : List UInt8} (h : HalfQ F c.low t Q) (ht : Ok (n + 1) lo hi t) (hc : c.low.length ≤ 3) : ∀ x ∈ Q, ChdOk x.1 ∧ x.1.low.length ≤ 3 := fun x hx => by
 obtain ⟨a, b, y, rfl, z, hz, hzy⟩ := h.new
 have h3 := ht.2.2.2.1
 simp only [List.mem_cons, List.not_mem_nil, or_false] at hx
 rcases hx with rfl | rfl
 ·exact chd_new hc
 ·exact chd_new (by rw [← hzy]; exact (h3 z hz).2)
theorem put_good {n : Nat} {lo hi : List UInt8} {v : Vt} {A : List (Chd × Vt)} {c : Chd} {t : Vt} {D Q : List (Chd × Vt)} (h : Ok (n + 1) lo hi v) (e : v.ch = A ++ (c, t) :: D) (hq : hdL Q = c.low) (hQ : OkK (Ok n) (hiD hi D) (loA lo A c) Q) (hd : ∀ q, denK n Q q = den n t q) (hc : ∀ x ∈ Q, ChdOk x.1 ∧ x.1.low.length ≤ 3) :
  Ok (n + 1) lo hi { v with ch := fixHead (A ++ (Q ++ D)) } ∧ ∀ q, den (n + 1) { v with ch := fixHead (A ++ (Q ++ D)) } q = den (n + 1) v q := by
 obtain ⟨h0, h1, h2, h3, h4, h5⟩ := h
 rw [e] at h3 h4 h5
 have hm := h5.mid
 have hf : ∀ x, A[0]? = some x → lw x = [] := fun x hx => h4 x (by
  cases A with
  | nil => simp at hx
  | cons z A => exact hx)
 have hA0 : A = [] → c.low = [] := fun e => h4 (c, t) (by rw [e]; rfl)
 refine ⟨⟨h0, h1, h2, fixHead_ok ?_, fixHead_first _, (OkK_fix _).2 (hm.put hq hQ)⟩, fun q => ?_⟩
 ·intro x hx
  rcases List.mem_append.1 hx with hx | hx
  ·exact h3 x (List.mem_append_left _ hx)
  ·rcases List.mem_append.1 hx with hx | hx
   ·exact hc x hx
   ·exact h3 x (by simp [hx])
 ·rw [den_succ, den_succ, e]
  dsimp only
  rw [denK_fix, denK_put hm hf hA0 hQ.ne hq (fun y D' eD a ha => ?_) q]
  ·by_cases hw : withinB q c.low (hdL D) = true
   ·rw [if_pos hw, hd, denK_mid hm hf hA0 q hw]
   ·rw [if_neg hw]
  ·subst eD
   have hb := hm.behind.1
   cases Q with
   | nil => simp at ha
   | cons x Q =>
    rcases List.mem_cons.1 ha with rfl | ha
    ·rw [show lw a = c.low from hq]
     cases A with
     | nil => rw [hA0 rfl]; exact bl_pos (bl_ne_nil hb)
     | cons z A => exact hb
    ·exact ((OkK.lo_lt hQ) a ha).2.elim (fun e => absurd e (bl_ne_nil hb)) id
theorem Sm.good {F L : Nat} {n : Nat} {v v' : Vt} {g : List Int} {h : List Nat} (s : Sm F L n v v' g h) : ∀ {lo hi : List UInt8}, Ok n lo hi v → Ok n lo hi v' ∧ ∀ q, withinB q lo hi = true → den n v' q = den n v q := by
 induction s with
 | refl n v => exact fun h => ⟨h, fun _ _ => rfl⟩
 | trans _ _ ih1 ih2 =>
  intro lo hi h
  obtain ⟨a1, a2⟩ := ih1 h
  obtain ⟨b1, b2⟩ := ih2 a1
  exact ⟨b1, fun q hq => (b2 q hq).trans (a2 q hq)⟩
 | load hl => exact fun h => ⟨hl.ok h, fun q _ => hl.den _ q⟩
 | @soil n v p hp => exact fun h => ⟨Ok_seat v.b v.mem v.ld none h, fun q _ => den_seat n v v.b v.mem v.ld none q⟩
 | @kid n v A c t t' D g h e hk _ ih =>
  rintro lo hi ⟨h0, h1, h2, h3, h4, h5⟩
  rw [e] at h3 h4 h5
  have hm := h5.mid
  have hf : ∀ x, A[0]? = some x → lw x = [] := fun x hx => h4 x (by
   cases A with
   | nil => simp at hx
   | cons z A => exact hx)
  have hA0 : A = [] → c.low = [] := fun e => h4 (c, t) (by rw [e]; rfl)
  obtain ⟨i1, i2⟩ := ih hm.t
  refine ⟨⟨h0, h1, h2, ?_, ?_, hm.set i1⟩, fun q hq => ?_⟩
  ·exact fst_mem (l := A ++ (c, t) :: D) (l' := A ++ (c, t') :: D) (P := fun c => ChdOk c ∧ c.low.length ≤ 3) (by simp) h3
  ·exact fst_at (l := A ++ (c, t) :: D) (l' := A ++ (c, t') :: D) (P := fun c => c.low = []) (by simp) h4
  ·rw [den_succ, den_succ, e]
   dsimp only
   rw [denK_set (t' := t') hm hf hA0 q]
   by_cases hw : withinB q c.low (hdL D) = true
   ·rw [if_pos hw, i2 q (loA_le hm hq hw), denK_mid hm hf hA0 q hw]
   ·rw [if_neg hw]
 | @kidLoad n v A c t t' D e hl =>
  rintro lo hi ⟨h0, h1, h2, h3, h4, h5⟩
  rw [e] at h3 h4 h5
  have hm := h5.mid
  have hf : ∀ x, A[0]? = some x → lw x = [] := fun x hx => h4 x (by
   cases A with
   | nil => simp at hx
   | cons z A => exact hx)
  have hA0 : A = [] → c.low = [] := fun e => h4 (c, t) (by rw [e]; rfl)
  refine ⟨⟨h0, h1, h2, ?_, ?_, hm.set (hl.ok hm.t)⟩, fun q hq => ?_⟩
  ·exact fst_mem (l := A ++ (c, t) :: D) (l' := A ++ (c, t') :: D) (P := fun c => ChdOk c ∧ c.low.length ≤ 3) (by simp) h3
  ·exact fst_at (l := A ++ (c, t) :: D) (l' := A ++ (c, t') :: D) (P := fun c => c.low = []) (by simp) h4
  ·rw [den_succ, den_succ, e]
   dsimp only
   rw [denK_set (t' := t') hm hf hA0 q]
   by_cases hw : withinB q c.low (hdL D) = true
   ·rw [if_pos hw, hl.den n q, denK_mid hm hf hA0 q hw]
   ·rw [if_neg hw]
 | @hand n v A c t D e _ _ _ =>
  rintro lo hi ⟨h0, h1, h2, h3, h4, h5⟩
  rw [e] at h3 h4 h5
  have hm := h5.mid
  have hf : ∀ x, A[0]? = some x → lw x = [] := fun x hx => h4 x (by
   cases A with
   | nil => simp at hx
   | cons z A => exact hx)
  have hA0 : A = [] → c.low = [] := fun e => h4 (c, t) (by rw [e]; rfl)
  have hG : Given (loA lo A c) (hiD hi D) (cutIn v.us c.low (hdL D)) := Given.cut h1 h2 fun q a b => loA_le hm a b
  have hO := cutOut_given (low := c.low) (high := hdL D) (lo' := lo) (hi' := hi) h1 h2 fun q a _ => a
  refine ⟨⟨h0, hO.rise, hO.ok, ?_, ?_, hm.set (gv_ok hm.t hG)⟩, fun q hq => ?_⟩
  ·exact fst_mem (l := A ++ (c, t) :: D) (l' := A ++ (c, _) :: D) (P := fun c => ChdOk c ∧ c.low.length ≤ 3) (by simp) h3
  ·exact fst_at (l := A ++ (c, t) :: D) (l' := A ++ (c, _) :: D) (P := fun c => c.low = []) (by simp) h4
  ·rw [den_succ, den_succ, e]
   dsimp only
   rw [denK_set hm hf hA0 q, getL_cutOut h1]
   by_cases hw : withinB q c.low (hdL D) = true
   ·rw [if_pos hw, if_pos hw, gv_den hm.t hG, getL_cutIn h1, if_pos hw, denK_mid hm hf hA0 q hw]
    rfl
   ·rw [if_neg hw, if_neg hw]
 | @parts v A c t D Q e hk ht hL hP =>
  rintro lo hi h
  have hm := (show OkK (Ok 0) hi lo (A ++ (c, t) :: D) by rw [← e]; exact h.2.2.2.2.2).mid
  obtain ⟨g1, g2⟩ := hP.good hm.t
  have := put_good h e hP.head g1 g2 (hP.chd hm.t (h.2.2.2.1 (c, t) (by rw [e]; simp)).2)
  exact ⟨this.1, fun q _ => this.2 q⟩
 | @halve n v A c t D Q e hk ht hP =>
  rintro lo hi h
  have hm := (show OkK (Ok (n + 1)) hi lo (A ++ (c, t) :: D) by rw [← e]; exact h.2.2.2.2.2).mid
  obtain ⟨g1, g2⟩ := hP.good hm.t
  obtain ⟨a, b, y, eQ, -⟩ := hP.new
  have := put_good h e (by rw [eQ]; rfl) g1 g2 (hP.chd hm.t (h.2.2.2.1 (c, t) (by rw [e]; simp)).2)
  exact ⟨this.1, fun q _ => this.2 q⟩
 | @drop v A c t D e hk ht he hne =>
  rintro lo hi ⟨h0, h1, h2, h3, h4, h5⟩
  rw [e] at h3 h4 h5
  have hf : ∀ x, A[0]? = some x → lw x = [] := fun x hx => h4 x (by
   cases A with
   | nil => simp at hx
   | cons z A => exact hx)
  have hA0 : A = [] → c.low = [] := fun e => h4 (c, t) (by rw [e]; rfl)
  refine ⟨⟨h0, h1, h2, fixHead_ok fun x hx => h3 x ?_, fixHead_first _, (OkK_fix _).2 (drop_ok h5 hne Ok.wide)⟩, fun q _ => ?_⟩
  ·rcases List.mem_append.1 hx with hx | hx
   ·exact List.mem_append_left _ hx
   ·exact List.mem_append_right _ (List.mem_cons_of_mem _ hx)
  ·rw [den_succ, den_succ, e]
   dsimp only
   rw [denK_fix, drop_den h5 hf hA0 hne he]
open Go.RowKit
open Go.Maps (Keyed)
structure Blk where
 kind : Nat
 pay : List UInt8
 gen : Nat
def blk0 : Blk := ⟨0, [], 0⟩
def blkV (b : Blk) : Value := .agg #[.int .u8 b.kind, .string (S b.pay), .int .u64 b.gen]
def blkD (b : Blk) : DataW Unit := .agg [.lit (.int .u8 b.kind), .lit (.string b.pay), .lit (.int .u64 b.gen)]
def blkR (v : Value) : Option (DataW Unit × List MemPlace) :=
 match v with
 | .agg ⟨[.int .u8 k, .string s, .int .u64 g]⟩ => if 0 ≤ k ∧ 0 ≤ g then some (blkD ⟨k.toNat, s.data.toList, g.toNat⟩, []) else none
 | _ => none
theorem blkR_mk (b : Blk) : blkR (blkV b) = some (blkD b, []) := by
 unfold blkV blkR
 simp [S_data]
theorem blkD_inj {a b : Blk} (h : blkD a = blkD b) : a = b := by
 obtain ⟨k, p, g⟩ := a
 obtain ⟨k', p', g'⟩ := b
 simp [blkD] at h
 obtain ⟨h1, h2, h3⟩ := h
 obtain rfl : k = k' := by omega
 obtain rfl : g = g' := by omega
 rw [h2]
theorem blkR_inv {v : Value} {b : Blk} {ps : List MemPlace} (h : blkR v = some (blkD b, ps)) : v = blkV b := by
 unfold blkR at h
 split at h
 ·rename_i k s g
  split at h
  ·rename_i hk
   simp only [Option.some.injEq, Prod.mk.injEq] at h
   have hb := blkD_inj h.1
   subst hb
   unfold blkV
   simp only [Value.agg.injEq]
   obtain ⟨l, rfl⟩ := S_ex s
   rw [S_data, Int.toNat_of_nonneg hk.1, Int.toNat_of_nonneg hk.2]
  ·cases h
 ·cases h
structure ShMap (w : World) (b n sz : Nat) (f : Int → Option Blk) : Prop where
 own : ∃ D : DataW Unit, w.ownsMap Tryz.prog 3 blkR b n D ∧ Maps.size D = sz ∧ ∀ i : Int, Maps.has D (.int .i64 i) = (f i).isSome ∧ D.atKey (.int .i64 i) (blkD blk0) = blkD ((f i).getD blk0)
section
variable {w w' : World} {b n sz : Nat} {f : Int → Option Blk}
theorem ShMap.made (w : World) : ShMap (w.alloc (.map #[] 0)) w.heap.size 0 0 (fun _ => none) := ⟨.map [], World.ownsMap_made _ _ _ _, rfl, fun _ => ⟨rfl, rfl⟩⟩
theorem ShMap.lt (h : ShMap w b n sz f) : b < w.heap.size := by obtain ⟨D, h, _⟩ := h; exact h.lt
theorem ShMap.kept' {row : Option Nat} (h : ShMap w b n sz f) (hg : w.grownBy w' row) (hne : some b ≠ row) : ShMap w' b n sz f := by
 obtain ⟨D, h, hs⟩ := h
 exact ⟨D, h.kept hg hne, hs⟩
theorem ShMap.on (h : ShMap w b n sz f) (hb : Below w.heap.size w w') : ShMap w' b n sz f := h.kept' (row := none) ⟨hb.os, hb.tape, hb.output, hb.size, fun i hi _ => hb.block i hi⟩ (by simp)
theorem zeroBlk (w : World) : (zeroValue 86).run Tryz.prog w = .ok (blkV blk0) w := by kernel_rfl
theorem intK : Keyed Tryz.prog 3 := Maps.int_keyed Tryz.underlying3
theorem key_int (i : Nat) (hi : i < 9223372036854775808) : keyOf Tryz.prog 3 (.int .i64 (i : Int)) = some (.int .i64 (i : Int)) := Maps.keyOf_int_mk Tryz.underlying3 (by simp [Lit.wf, IntKind.min, IntKind.max, IntKind.bits, IntKind.signed]; omega)
theorem ShMap.look (h : ShMap w b n sz f) (i : Nat) (hi : i < 9223372036854775808) : (Instr.lookup 24 (.map (some b)) (.int .i64 (i : Int)) true).run Tryz.prog w = .ok (.tuple #[blkV ((f (i : Int)).getD blk0), .bool (f (i : Int)).isSome]) w := by
 obtain ⟨D, h, -, hs⟩ := h
 obtain ⟨v, ps, hrun, hv⟩ := h.look_ok intK Tryz.underlying24 (zeroBlk w) (blkR_mk blk0) (key_int i hi)
 rw [(hs i).2] at hv
 rw [hrun, (hs i).1, blkR_inv hv]
theorem ShMap.len (h : ShMap w b n sz f) (ty : TypeId) : (Builtin.len_ #[24] ty #[.map (some b)]).run Tryz.prog w = .ok (.int .i64 (sz : Int)) w := by
 obtain ⟨D, h, hz, -⟩ := h
 have := h.len Tryz.underlying24 ty
 rw [hz] at this
 exact this
theorem ShMap.put (h : ShMap w b n sz f) (hn : n < 100000) (i : Nat) (hi : i < 9223372036854775808) (x : Blk) (f' : Int → Option Blk) (h1 : f' (i : Int) = some x) (h2 : ∀ j : Int, j ≠ (i : Int) → f' j = f j) : ∃ w', (Instr.mapUpdate 24 (.map (some b)) (.int .i64 (i : Int)) (blkV x)).run Tryz.prog w = .ok () w' ∧ ShMap w' b (n + 1) (if (f (i : Int)).isSome then sz else sz + 1) f' ∧ w.grownBy w' (some b) := by
 obtain ⟨D, h, hz, hs⟩ := h
 obtain ⟨w', hrun, r1, r2⟩ := h.update intK Tryz.underlying24 (by unfold maxLen; omega) (key_int i hi) (blkR_mk x)
 have hkl : WideAt.IsKeyLit (.int .i64 (i : Int)) := intK.key (key_int i hi)
 refine ⟨w', hrun, ⟨_, r1, ?_, fun j => ?_⟩, r2⟩
 ·rw [Maps.size_put (h.tidy intK), (hs i).1, hz]
 ·by_cases e : j = (i : Int)
  ·subst e
   rw [Maps.has_put_same h.isMap hkl, Maps.atKey_put_same h.isMap hkl, h1]
   exact ⟨rfl, rfl⟩
  ·have hne : (Lit.int .i64 j) ≠ .int .i64 (i : Int) := fun q => e (by injection q)
   rw [Maps.has_put_other hne, Maps.atKey_put_other hne, h2 j e]
   exact hs j
end
theorem ptr_first (w : World) (b c : Nat) (a : Addr) (v : Value) (hb : w.heap[b]? = some (.map #[] c)) : ∃ w', (Instr.mapUpdate 119 (.map (some b)) (.pointer (some a)) v).run Tryz.prog w = .ok () w' ∧ w.grownBy w' (some b) := by
 have h1 : (Instr.checkKey false 10000 97 (.pointer (some a))).run Tryz.prog w = .ok () w := by
  rw [show (10000 : Nat) = 9999 + 1 from rfl, Instr.checkKey]
  simp [run_underlying Tryz.underlying97, Result.andThen]
 have h2 : (Instr.findKey 97 (.pointer (some a)) []).run Tryz.prog w = .ok none w := by
  simp [Instr.findKey, Instr.findNow, run_underlying Tryz.underlying97, Result.andThen]
 refine ⟨ChangeMaps.setBlock w b (.map #[⟨.pointer (some a), v, c⟩] (c + 1)), ?_, ⟨rfl, rfl, rfl, by simp [ChangeMaps.setBlock], fun i _ hi => ChangeMaps.heap_setBlock_other hb _ (fun e => hi (by rw [e]))⟩⟩
 simp [Instr.mapUpdate, run_underlying Tryz.underlying119, MapKept.run_getObj_map hb, h1, h2, MapKept.run_setObj_map _ hb, ChangeMaps.setBlock, Result.andThen]
open Go.RowKit
def dist2 (n : Nat) : Nat := (n - 2) + (2 - n)
def pot : Nat → Vt → Nat
 | 0, v => dist2 v.es.length
 | n + 1, v => dist2 v.ch.length * 2 ^ (n + 1) + v.us.length + (v.ch.map fun x => pot n x.2).sum
def mu : Nat → Vt → Nat
 | 0, v => dist2 v.es.length
 | n + 1, v => dist2 v.ch.length + 2 * (n + 1) * v.us.length + (v.ch.map fun x => mu n x.2).sum
def om : Nat → Vt → Nat
 | 0, _ => 0
 | n + 1, v => (n + 1) * v.us.length + (v.ch.map fun x => om n x.2).sum
def addrs : Nat → Vt → List Int
 | 0, v => v.kn.toList.map Pt.a
 | n + 1, v => v.kn.toList.map Pt.a ++ v.ch.flatMap fun x => addrs n x.2
def Shf (f : Int → Option Blk) : Nat → Vt → Prop
 | 0, v => ∀ p, v.kn = some p → f p.a = some ⟨4, entText v.es, p.g⟩
 | n + 1, v => (∀ p, v.kn = some p → f p.a = some ⟨5, textN v.cs v.us, p.g⟩ ∧ NodeOk v.cs v.us ∧ ∀ x ∈ v.ch, x.2.kn = some ⟨x.1.addr, x.1.gen, x.1.sum⟩) ∧ ∀ x ∈ v.ch, Shf f n x.2
def sumK (f : Vt → Nat) (l : List (Chd × Vt)) : Nat := (l.map fun x => f x.2).sum
theorem sumK_nil (f : Vt → Nat) : sumK f [] = 0 := rfl
theorem sumK_cons (f : Vt → Nat) (x : Chd × Vt) (l : List (Chd × Vt)) : sumK f (x :: l) = f x.2 + sumK f l := by simp [sumK]
theorem sumK_append (f : Vt → Nat) (a b : List (Chd × Vt)) : sumK f (a ++ b) = sumK f a + sumK f b := by simp [sumK]
theorem sumK_fix (f : Vt → Nat) (l : List (Chd × Vt)) : sumK f (fixHead l) = sumK f l := by
 cases l with
 | nil => rfl
 | cons x l => rw [fixHead, sumK_cons, sumK_cons]
theorem sumK_seat (f : Vt → Nat) (hf : ∀ t : Vt, f { t with b := 0, mem := false } = f t) : ∀ l : List (Chd × Vt), sumK f (l.map seat) = sumK f l
 | [] => rfl
 | x :: l => by rw [List.map_cons, sumK_cons, sumK_cons, sumK_seat f hf l]; congr 1; exact hf x.2
theorem sumK_le {f : Vt → Nat} {l : List (Chd × Vt)} {x : Chd × Vt} (h : x ∈ l) : f x.2 ≤ sumK f l := by
 induction l with
 | nil => simp at h
 | cons y l ih =>
  rw [sumK_cons]
  rcases List.mem_cons.1 h with rfl | h
  ·omega
  ·have := ih h; omega
theorem pot_zero (v : Vt) : pot 0 v = dist2 v.es.length := rfl
theorem pot_succ (n : Nat) (v : Vt) : pot (n + 1) v = dist2 v.ch.length * 2 ^ (n + 1) + v.us.length + sumK (pot n) v.ch := rfl
theorem mu_zero (v : Vt) : mu 0 v = dist2 v.es.length := rfl
theorem mu_succ (n : Nat) (v : Vt) : mu (n + 1) v = dist2 v.ch.length + 2 * (n + 1) * v.us.length + sumK (mu n) v.ch := rfl
theorem om_succ (n : Nat) (v : Vt) : om (n + 1) v = (n + 1) * v.us.length + sumK (om n) v.ch := rfl
theorem pot_seat : ∀ (n : Nat) (t : Vt) (b : Nat) (m l : Bool) (k : Option Pt), pot n { t with b := b, mem := m, ld := l, kn := k } = pot n t
 | 0, _, _, _, _, _ => rfl
 | _ + 1, _, _, _, _, _ => rfl
theorem mu_seat : ∀ (n : Nat) (t : Vt) (b : Nat) (m l : Bool) (k : Option Pt), mu n { t with b := b, mem := m, ld := l, kn := k } = mu n t
 | 0, _, _, _, _, _ => rfl
 | _ + 1, _, _, _, _, _ => rfl
theorem om_seat : ∀ (n : Nat) (t : Vt) (b : Nat) (m l : Bool) (k : Option Pt), om n { t with b := b, mem := m, ld := l, kn := k } = om n t
 | 0, _, _, _, _, _ => rfl
 | _ + 1, _, _, _, _, _ => rfl
theorem Loads.pot_eq {v v' : Vt} (h : Loads v v') : ∀ n, pot n v' = pot n v
 | 0 => by rw [pot_zero, pot_zero, h.es]
 | n + 1 => by
  rw [pot_succ, pot_succ, h.len, h.us, ← sumK_seat (pot n) (fun t => pot_seat n t 0 false t.ld t.kn) v'.ch, h.ch, sumK_seat (pot n) (fun t => pot_seat n t 0 false t.ld t.kn)]
theorem Loads.mu_eq {v v' : Vt} (h : Loads v v') : ∀ n, mu n v' = mu n v
 | 0 => by rw [mu_zero, mu_zero, h.es]
 | n + 1 => by
  rw [mu_succ, mu_succ, h.len, h.us, ← sumK_seat (mu n) (fun t => mu_seat n t 0 false t.ld t.kn) v'.ch, h.ch, sumK_seat (mu n) (fun t => mu_seat n t 0 false t.ld t.kn)]
theorem Loads.om_eq {v v' : Vt} (h : Loads v v') : ∀ n, om n v' = om n v
 | 0 => rfl
 | n + 1 => by
  rw [om_succ, om_succ, h.us, ← sumK_seat (om n) (fun t => om_seat n t 0 false t.ld t.kn) v'.ch, h.ch, sumK_seat (om n) (fun t => om_seat n t 0 false t.ld t.kn)]
theorem onE_dist (l : List Ent) (hr : Rising Ent.key l) (u : Upd) : dist2 (onE l u).length ≤ dist2 l.length + 1 := by
 have : (onE l u).length ≤ l.length + 1 ∧ l.length ≤ (onE l u).length + 1 := by
  unfold onE
  split
  ·omega
  ·split
   ·split
    ·rw [List.length_set]; omega
    ·have := below_le (key := Ent.key) l u.key
     rw [insE_len _ _ _ this]; omega
   ·split
    ·rename_i hh
     obtain ⟨hi, -⟩ := (hr.found u.key).1 hh
     rw [delE_len _ _ hi]; omega
    ·omega
 unfold dist2
 omega
theorem onAll_dist : ∀ (us : List Upd) (l : List Ent), Rising Ent.key l → dist2 (onAll l us).length ≤ dist2 l.length + us.length
 | [], l, _ => Nat.le_refl _
 | u :: us, l, hr => by
  have h1 := onE_dist l hr u
  have h2 := onAll_dist us (onE l u) (onE_rising hr u)
  rw [show onAll l (u :: us) = onAll (onE l u) us from rfl]
  simp only [List.length_cons]
  omega
theorem gv_pot : ∀ {n : Nat} {lo hi : List UInt8} {v : Vt} (l : List Upd), Ok n lo hi v → pot n (gv n v l) ≤ pot n v + l.length
 | 0, _, _, v, l, h => onAll_dist l v.es h.2.2.1
 | n + 1, _, _, v, l, h => by
  have := fold_len l v.us h.2.1
  rw [pot_succ, pot_succ]
  show _ + (l.foldl withL v.us).length + _ ≤ _
  simp only [gv]
  omega
theorem gv_mu : ∀ {n : Nat} {lo hi : List UInt8} {v : Vt} (l : List Upd), Ok n lo hi v → mu n (gv n v l) + l.length ≤ mu n v + 2 * (n + 1) * l.length
 | 0, _, _, v, l, h => by
  have := onAll_dist l v.es h.2.2.1
  rw [mu_zero, mu_zero]
  simp only [gv]
  omega
 | n + 1, _, _, v, l, h => by
  have h1 := fold_len l v.us h.2.1
  rw [mu_succ, mu_succ]
  simp only [gv]
  have h2 := Nat.mul_le_mul_left (2 * (n + 1)) h1
  have e1 : 2 * (n + 1) * (v.us.length + l.length) = 2 * (n + 1) * v.us.length + 2 * (n + 1) * l.length := Nat.mul_add _ _ _
  have e2 : 2 * (n + 1 + 1) * l.length = 2 * (n + 1) * l.length + 2 * l.length := by rw [show 2 * (n + 1 + 1) = 2 * (n + 1) + 2 by omega, Nat.add_mul]
  omega
theorem gv_om : ∀ {n : Nat} {lo hi : List UInt8} {v : Vt} (l : List Upd), Ok n lo hi v → om n (gv n v l) ≤ om n v + n * l.length
 | 0, _, _, v, l, h => by simp [om]
 | n + 1, _, _, v, l, h => by
  have h1 := fold_len l v.us h.2.1
  rw [om_succ, om_succ]
  simp only [gv]
  have h2 := Nat.mul_le_mul_left (n + 1) h1
  rw [Nat.mul_add] at h2
  omega
theorem cut_len {us : List Upd} (hr : Rising Upd.key us) (low high : List UInt8) : (cutIn us low high).length + (cutOut us low high).length = us.length := by
 rw [(cut_filter hr low high).1, (cut_filter hr low high).2]
 clear hr
 induction us with
 | nil => rfl
 | cons u us ih =>
  cases h : withinB u.key low high with
  | true =>
   rw [List.filter_cons_of_pos (by exact h), List.filter_cons_of_neg (by simp [h])]
   simp only [List.length_cons]
   omega
  | false =>
   rw [List.filter_cons_of_neg (by simp [h]), List.filter_cons_of_pos (by simp [h])]
   simp only [List.length_cons]
   omega
theorem PartsQ.sum {L : Nat} {low : List UInt8} {es : List Ent} {Q : List (Chd × Vt)} (h : PartsQ L low es Q) : sumK (pot 0) Q + 2 * Q.length = es.length ∧ sumK (mu 0) Q + 2 * Q.length = es.length := by
 have h1 := h.len
 rw [h.all]
 clear h
 induction Q with
 | nil => exact ⟨rfl, rfl⟩
 | cons x Q ih =>
  obtain ⟨i1, i2⟩ := ih fun z hz => h1 z (List.mem_cons_of_mem _ hz)
  have h2 := (h1 x (by simp)).1
  have h3 : dist2 x.2.es.length = x.2.es.length - 2 := by unfold dist2; omega
  rw [sumK_cons, sumK_cons, List.flatMap_cons, List.length_append, List.length_cons, pot_zero, mu_zero, h3]
  omega
theorem HalfQ.sum {F n : Nat} {c : List UInt8} {t : Vt} {Q : List (Chd × Vt)} (h : HalfQ F c t Q) (hr : Rising Upd.key t.us) (hF : 3 ≤ F) :
  Q.length = 2 ∧ sumK (pot (n + 1)) Q + 2 * 2 ^ (n + 1) = pot (n + 1) t ∧ sumK (mu (n + 1)) Q + 2 = mu (n + 1) t ∧ sumK (om (n + 1)) Q = om (n + 1) t := by
 obtain ⟨X, y, Y, ba, bb, e, hl, hX, hY, rfl⟩ := h.ex
 have hc := cut_len hr [] (lw y)
 have hl2 : t.ch.length = X.length + (Y.length + 1) := by rw [e]; simp
 refine ⟨rfl, ?_, ?_, ?_⟩
 ·rw [sumK_cons, sumK_cons, sumK_nil, pot_succ, pot_succ, pot_succ, e, sumK_append]
  simp only [sumK_fix, fixHead_len, List.length_append, List.length_cons]
  have e1 : dist2 X.length = X.length - 2 := by unfold dist2; omega
  have e2 : dist2 (Y.length + 1) = Y.length + 1 - 2 := by unfold dist2; omega
  have e3 : dist2 (X.length + (Y.length + 1)) = (X.length - 2) + (Y.length + 1 - 2) + 2 := by unfold dist2; omega
  rw [e1, e2, e3, Nat.add_mul, Nat.add_mul]
  omega
 ·rw [sumK_cons, sumK_cons, sumK_nil, mu_succ, mu_succ, mu_succ, e, sumK_append]
  simp only [sumK_fix, fixHead_len, List.length_append, List.length_cons]
  have e1 : dist2 X.length = X.length - 2 := by unfold dist2; omega
  have e2 : dist2 (Y.length + 1) = Y.length + 1 - 2 := by unfold dist2; omega
  have e3 : dist2 (X.length + (Y.length + 1)) = (X.length - 2) + (Y.length + 1 - 2) + 2 := by unfold dist2; omega
  have e4 := Nat.mul_add (2 * (n + 1)) (cutIn t.us [] (lw y)).length (cutOut t.us [] (lw y)).length
  rw [hc] at e4
  rw [e1, e2, e3]
  omega
 ·rw [sumK_cons, sumK_cons, sumK_nil, om_succ, om_succ, om_succ, e, sumK_append]
  simp only [sumK_fix]
  have e4 := Nat.mul_add (n + 1) (cutIn t.us [] (lw y)).length (cutOut t.us [] (lw y)).length
  rw [hc] at e4
  omega
theorem Ok.usr {n : Nat} {lo hi : List UInt8} {v : Vt} (h : Ok (n + 1) lo hi v) : Rising Upd.key v.us := h.2.1
theorem Ok.okk {n : Nat} {lo hi : List UInt8} {v : Vt} (h : Ok (n + 1) lo hi v) : OkK (Ok n) hi lo v.ch := h.2.2.2.2.2
theorem Ok.mid {n : Nat} {lo hi : List UInt8} {v : Vt} (h : Ok (n + 1) lo hi v) {A : List (Chd × Vt)} {c : Chd} {t : Vt} {D : List (Chd × Vt)} (e : v.ch = A ++ (c, t) :: D) : Mid (Ok n) hi lo A c t D := by
 have := h.okk
 rw [e] at this
 exact this.mid
theorem parts_less {L : Nat} {v : Vt} {A : List (Chd × Vt)} {c : Chd} {t : Vt} {D Q : List (Chd × Vt)} (e : v.ch = A ++ (c, t) :: D) (hL : L < t.es.length) (hL3 : 3 ≤ L) (hP : PartsQ L c.low t.es Q) :
  pot 1 { v with ch := fixHead (A ++ (Q ++ D)) } ≤ pot 1 v ∧ mu 1 { v with ch := fixHead (A ++ (Q ++ D)) } + Q.length ≤ mu 1 v + 1 ∧ om 1 { v with ch := fixHead (A ++ (Q ++ D)) } = om 1 v := by
 obtain ⟨h1, h2⟩ := hP.sum
 have h3 := hP.two
 have h4 : dist2 t.es.length = t.es.length - 2 := by unfold dist2; omega
 refine ⟨?_, ?_, ?_⟩
 ·rw [pot_succ, pot_succ, e]
  simp only [sumK_fix, fixHead_len, sumK_append, sumK_cons, List.length_append, List.length_cons, pot_zero]
  rw [h4]
  have : dist2 (A.length + (Q.length + D.length)) ≤ dist2 (A.length + (D.length + 1)) + (Q.length - 1) := by unfold dist2; omega
  simp only [Nat.reduceAdd, Nat.pow_one]
  omega
 ·rw [mu_succ, mu_succ, e]
  simp only [sumK_fix, fixHead_len, sumK_append, sumK_cons, List.length_append, List.length_cons, mu_zero]
  rw [h4]
  have : dist2 (A.length + (Q.length + D.length)) ≤ dist2 (A.length + (D.length + 1)) + (Q.length - 1) := by unfold dist2; omega
  omega
 ·rw [om_succ, om_succ, e]
  simp only [sumK_fix, sumK_append, sumK_cons]
  have : ∀ l : List (Chd × Vt), sumK (om 0) l = 0 := fun l => by
   induction l with
   | nil => rfl
   | cons x l ih => rw [sumK_cons, ih]; rfl
  rw [this, this, this, show om 0 t = 0 from rfl]
theorem drop_less {v : Vt} {A : List (Chd × Vt)} {c : Chd} {t : Vt} {D : List (Chd × Vt)} (e : v.ch = A ++ (c, t) :: D) (he : t.es = []) :
  pot 1 { v with ch := fixHead (A ++ D) } ≤ pot 1 v ∧ mu 1 { v with ch := fixHead (A ++ D) } + 1 ≤ mu 1 v ∧ om 1 { v with ch := fixHead (A ++ D) } = om 1 v := by
 have h4 : dist2 t.es.length = 2 := by rw [he]; rfl
 have : dist2 (A.length + D.length) ≤ dist2 (A.length + (D.length + 1)) + 1 := by unfold dist2; omega
 refine ⟨?_, ?_, ?_⟩
 ·rw [pot_succ, pot_succ, e]
  simp only [sumK_fix, fixHead_len, sumK_append, sumK_cons, List.length_append, List.length_cons, pot_zero]
  rw [h4]
  simp only [Nat.reduceAdd, Nat.pow_one]
  omega
 ·rw [mu_succ, mu_succ, e]
  simp only [sumK_fix, fixHead_len, sumK_append, sumK_cons, List.length_append, List.length_cons, mu_zero]
  rw [h4]
  omega
 ·rw [om_succ, om_succ, e]
  simp only [sumK_fix, sumK_append, sumK_cons]
  show _ = _ + (_ + (0 + _))
  omega
theorem halve_less {F n : Nat} {v : Vt} {A : List (Chd × Vt)} {c : Chd} {t : Vt} {D Q : List (Chd × Vt)} (e : v.ch = A ++ (c, t) :: D) (hr : Rising Upd.key t.us) (hF : 3 ≤ F) (hP : HalfQ F c.low t Q) :
  pot (n + 2) { v with ch := fixHead (A ++ (Q ++ D)) } ≤ pot (n + 2) v ∧ mu (n + 2) { v with ch := fixHead (A ++ (Q ++ D)) } + 1 ≤ mu (n + 2) v ∧ om (n + 2) { v with ch := fixHead (A ++ (Q ++ D)) } = om (n + 2) v := by
 obtain ⟨h0, h1, h2, h3⟩ := hP.sum (n := n) hr hF
 have : dist2 (A.length + (2 + D.length)) ≤ dist2 (A.length + (D.length + 1)) + 1 := by unfold dist2; omega
 refine ⟨?_, ?_, ?_⟩
 ·rw [pot_succ, pot_succ, e]
  simp only [sumK_fix, fixHead_len, sumK_append, sumK_cons, List.length_append, List.length_cons]
  rw [← h1, h0]
  have h5 := Nat.mul_le_mul_right (2 ^ (n + 1 + 1)) this
  rw [Nat.add_mul, Nat.one_mul] at h5
  have h6 : 2 ^ (n + 1 + 1) = 2 * 2 ^ (n + 1) := by rw [Nat.pow_succ 2 (n + 1)]; omega
  omega
 ·rw [mu_succ, mu_succ, e]
  simp only [sumK_fix, fixHead_len, sumK_append, sumK_cons, List.length_append, List.length_cons]
  rw [← h2, h0]
  omega
 ·rw [om_succ, om_succ, e]
  simp only [sumK_fix, sumK_append, sumK_cons]
  rw [← h3]
structure Less (n : Nat) (v v' : Vt) (h : List Nat) : Prop where
 pot : pot n v' ≤ pot n v
 mu : mu n v' + h.sum ≤ mu n v
 om : om n v' + h.sum ≤ om n v
theorem Sm.less {F L : Nat} (hF : 3 ≤ F) (hL3 : 3 ≤ L) {n : Nat} {v v' : Vt} {g : List Int} {h : List Nat} (s : Sm F L n v v' g h) : ∀ {lo hi : List UInt8}, Ok n lo hi v → Less n v v' h := by
 induction s with
 | refl n v => exact fun _ => ⟨Nat.le_refl _, by simp, by simp⟩
 | trans s1 _ ih1 ih2 =>
  intro lo hi h
  obtain ⟨a1, a2, a3⟩ := ih1 h
  obtain ⟨b1, b2, b3⟩ := ih2 (s1.good h).1
  exact ⟨Nat.le_trans b1 a1, by rw [List.sum_append]; omega, by rw [List.sum_append]; omega⟩
 | load hl => exact fun _ => ⟨Nat.le_of_eq (hl.pot_eq _), by rw [hl.mu_eq]; simp, by rw [hl.om_eq]; simp⟩
 | @soil n v p hp => exact fun _ => ⟨Nat.le_of_eq (pot_seat n v v.b v.mem v.ld none), by rw [mu_seat n v v.b v.mem v.ld none]; simp, by rw [om_seat n v v.b v.mem v.ld none]; simp⟩
 | @kid n v A c t t' D g h e hk _ ih =>
  intro lo hi ho
  obtain ⟨a1, a2, a3⟩ := ih (ho.mid e).t
  refine ⟨?_, ?_, ?_⟩
  ·rw [pot_succ, pot_succ, e]
   simp only [sumK_append, sumK_cons, List.length_append, List.length_cons]
   omega
  ·rw [mu_succ, mu_succ, e]
   simp only [sumK_append, sumK_cons, List.length_append, List.length_cons]
   omega
  ·rw [om_succ, om_succ, e]
   simp only [sumK_append, sumK_cons]
   omega
 | @kidLoad n v A c t t' D e hl =>
  intro lo hi ho
  refine ⟨?_, ?_, ?_⟩
  ·rw [pot_succ, pot_succ, e]
   simp only [sumK_append, sumK_cons, List.length_append, List.length_cons, hl.pot_eq]
   omega
  ·rw [mu_succ, mu_succ, e]
   simp only [sumK_append, sumK_cons, List.length_append, List.length_cons, hl.mu_eq, List.sum_nil]
   omega
  ·rw [om_succ, om_succ, e]
   simp only [sumK_append, sumK_cons, hl.om_eq, List.sum_nil]
   omega
 | @hand n v A c t D e _ _ _ =>
  intro lo hi ho
  have hc := cut_len ho.usr c.low (hdL D)
  have h1 := gv_pot (cutIn v.us c.low (hdL D)) (ho.mid e).t
  have h2 := gv_mu (cutIn v.us c.low (hdL D)) (ho.mid e).t
  have h3 := gv_om (cutIn v.us c.low (hdL D)) (ho.mid e).t
  refine ⟨?_, ?_, ?_⟩
  ·rw [pot_succ, pot_succ, e]
   simp only [sumK_append, sumK_cons, List.length_append, List.length_cons]
   omega
  ·rw [mu_succ, mu_succ, e]
   simp only [sumK_append, sumK_cons, List.length_append, List.length_cons, List.sum_cons, List.sum_nil]
   have e4 := Nat.mul_add (2 * (n + 1)) (cutIn v.us c.low (hdL D)).length (cutOut v.us c.low (hdL D)).length
   rw [hc] at e4
   omega
  ·rw [om_succ, om_succ, e]
   simp only [sumK_append, sumK_cons, List.sum_cons, List.sum_nil]
   have e4 := Nat.mul_add (n + 1) (cutIn v.us c.low (hdL D)).length (cutOut v.us c.low (hdL D)).length
   have e5 := Nat.add_mul n 1 (cutIn v.us c.low (hdL D)).length
   rw [hc] at e4
   omega
 | @parts v A c t D Q e hk ht hL hP =>
  intro lo hi ho
  obtain ⟨a1, a2, a3⟩ := parts_less e hL hL3 hP
  have := hP.two
  exact ⟨a1, by simp only [List.sum_nil]; omega, by simp only [List.sum_nil]; omega⟩
 | @drop v A c t D e hk ht he hne =>
  intro lo hi ho
  obtain ⟨a1, a2, a3⟩ := drop_less e he
  exact ⟨a1, by simp only [List.sum_nil]; omega, by simp only [List.sum_nil]; omega⟩
 | @halve n v A c t D Q e hk ht hP =>
  intro lo hi ho
  obtain ⟨a1, a2, a3⟩ := halve_less e (ho.mid e).t.usr hF hP
  exact ⟨a1, by simp only [List.sum_nil]; omega, by simp only [List.sum_nil]; omega⟩
open Go.RowKit
theorem flat_fix {α : Type} (f : Vt → List α) (l : List (Chd × Vt)) : (fixHead l).flatMap (fun x => f x.2) = l.flatMap (fun x => f x.2) := by
 cases l with
 | nil => rfl
 | cons x l => rfl
theorem flat_seat {α : Type} (f : Vt → List α) (hf : ∀ t : Vt, f { t with b := 0, mem := false } = f t) : ∀ l : List (Chd × Vt), (l.map seat).flatMap (fun x => f x.2) = l.flatMap (fun x => f x.2)
 | [] => rfl
 | x :: l => by rw [List.map_cons, List.flatMap_cons, List.flatMap_cons, flat_seat f hf l]; congr 1; exact hf x.2
def addrsK (n : Nat) (l : List (Chd × Vt)) : List Int := l.flatMap fun x => addrs n x.2
theorem addrsK_nil (n : Nat) : addrsK n [] = [] := rfl
theorem addrsK_cons (n : Nat) (x : Chd × Vt) (l : List (Chd × Vt)) : addrsK n (x :: l) = addrs n x.2 ++ addrsK n l := rfl
theorem addrsK_append (n : Nat) (a b : List (Chd × Vt)) : addrsK n (a ++ b) = addrsK n a ++ addrsK n b := by simp [addrsK]
theorem addrsK_fix (n : Nat) (l : List (Chd × Vt)) : addrsK n (fixHead l) = addrsK n l := flat_fix (addrs n) l
theorem addrs_zero (v : Vt) : addrs 0 v = v.kn.toList.map Pt.a := rfl
theorem addrs_succ (n : Nat) (v : Vt) : addrs (n + 1) v = v.kn.toList.map Pt.a ++ addrsK n v.ch := rfl
theorem addrs_seat : ∀ (n : Nat) (t : Vt) (b : Nat) (m l : Bool), addrs n { t with b := b, mem := m, ld := l } = addrs n t
 | 0, _, _, _, _ => rfl
 | _ + 1, _, _, _, _ => rfl
theorem Loads.addrs_eq {v v' : Vt} (h : Loads v v') : ∀ n, addrs n v' = addrs n v
 | 0 => by rw [addrs_zero, addrs_zero, h.kn]
 | n + 1 => by
  rw [addrs_succ, addrs_succ, h.kn]
  have e := flat_seat (addrs n) (fun t => addrs_seat n t 0 false t.ld) v'.ch
  rw [h.ch, flat_seat (addrs n) (fun t => addrs_seat n t 0 false t.ld) v.ch] at e
  unfold addrsK
  rw [← e]
theorem gv_kn : ∀ (n : Nat) (v : Vt) (l : List Upd), (gv n v l).kn = v.kn ∧ (gv n v l).ch = v.ch ∧ (gv n v l).b = v.b ∧ (gv n v l).mem = v.mem ∧ (gv n v l).ld = v.ld
 | 0, _, _ => ⟨rfl, rfl, rfl, rfl, rfl⟩
 | _ + 1, _, _ => ⟨rfl, rfl, rfl, rfl, rfl⟩
theorem gv_addrs (n : Nat) (v : Vt) (l : List Upd) : addrs n (gv n v l) = addrs n v := by
 cases n <;> rfl
theorem addrs_none {n : Nat} {v : Vt} (h : v.kn = none) : addrs (n + 1) v = addrsK n v.ch := by rw [addrs_succ, h]; rfl
theorem PartsQ.addrs {L : Nat} {low : List UInt8} {es : List Ent} {Q : List (Chd × Vt)} (h : PartsQ L low es Q) : addrsK 0 Q = [] := by
 have h1 := h.leaf
 clear h
 induction Q with
 | nil => rfl
 | cons x Q ih =>
  rw [addrsK_cons, ih fun z hz => h1 z (List.mem_cons_of_mem _ hz), addrs_zero, (h1 x (by simp)).2.2.2.2]
  rfl
theorem HalfQ.addrs {F n : Nat} {c : List UInt8} {t : Vt} {Q : List (Chd × Vt)} (h : HalfQ F c t Q) (hk : t.kn = none) : addrsK (n + 1) Q = addrs (n + 1) t := by
 obtain ⟨X, y, Y, ba, bb, e, -, -, -, rfl⟩ := h.ex
 rw [addrs_none hk, addrsK_cons, addrsK_cons, addrsK_nil, addrs_none rfl, addrs_none rfl, e, addrsK_append]
 dsimp only
 rw [addrsK_fix, List.append_nil]
theorem Sm.addrs {F L : Nat} {n : Nat} {v v' : Vt} {g : List Int} {h : List Nat} (s : Sm F L n v v' g h) : (addrs n v' ++ g).Perm (addrs n v) := by
 induction s with
 | refl n v => rw [List.append_nil]
 | trans _ _ ih1 ih2 =>
  refine List.Perm.trans ?_ ih1
  refine List.Perm.trans ?_ (ih2.append_right _)
  rw [List.append_assoc]
  exact List.Perm.append_left _ List.perm_append_comm
 | load hl => rw [hl.addrs_eq, List.append_nil]
 | @soil n v p hp =>
  cases n with
  | zero =>
   rw [addrs_zero, addrs_zero, hp]
   exact List.Perm.refl _
  | succ n =>
   rw [addrs_succ, addrs_succ, hp]
   exact List.perm_append_comm
 | @kid n v A c t t' D g h e hk _ ih =>
  rw [addrs_succ, addrs_succ, e]
  dsimp only
  rw [addrsK_append, addrsK_append, addrsK_cons, addrsK_cons]
  simp only [List.append_assoc]
  refine List.Perm.append_left _ (List.Perm.append_left _ ?_)
  refine List.Perm.trans (List.Perm.append_left _ List.perm_append_comm) ?_
  rw [← List.append_assoc]
  exact ih.append_right _
 | @kidLoad n v A c t t' D e hl =>
  rw [addrs_succ, addrs_succ, e, List.append_nil]
  dsimp only
  rw [addrsK_append, addrsK_append, addrsK_cons, addrsK_cons]
  dsimp only
  rw [hl.addrs_eq]
 | @hand n v A c t D e _ _ _ =>
  rw [addrs_succ, addrs_succ, e, List.append_nil]
  dsimp only
  rw [addrsK_append, addrsK_append, addrsK_cons, addrsK_cons]
  dsimp only
  rw [gv_addrs]
 | @parts v A c t D Q e hk ht hL hP =>
  rw [addrs_succ, addrs_succ, e, List.append_nil]
  dsimp only
  rw [addrsK_fix, addrsK_append, addrsK_append, addrsK_append, addrsK_cons, hP.addrs]
  dsimp only
  rw [addrs_zero, ht]
  exact List.Perm.refl _
 | @halve n v A c t D Q e hk ht hP =>
  rw [addrs_succ, addrs_succ, e, List.append_nil]
  dsimp only
  rw [addrsK_fix, addrsK_append, addrsK_append, addrsK_append, addrsK_cons, hP.addrs ht]
 | @drop v A c t D e hk ht he hne =>
  rw [addrs_succ, addrs_succ, e, List.append_nil]
  dsimp only
  rw [addrsK_fix, addrsK_append, addrsK_append, addrsK_cons]
  dsimp only
  rw [addrs_zero, ht]
  exact List.Perm.refl _
theorem Shf_seat {f : Int → Option Blk} : ∀ {n : Nat} {t : Vt} {b : Nat} {m l : Bool}, Shf f n { t with b := b, mem := m, ld := l } ↔ Shf f n t
 | 0, _, _, _, _ => Iff.rfl
 | _ + 1, _, _, _, _ => Iff.rfl
theorem seat_all {P : Chd → Option Pt → Vt → Prop} {l l' : List (Chd × Vt)} (h : l'.map seat = l.map seat) (hp : ∀ x ∈ l, P x.1 x.2.kn x.2) (hs : ∀ c t t', (seat (c, t)).2 = (seat (c, t')).2 → P c t.kn t → P c t'.kn t') : ∀ x ∈ l', P x.1 x.2.kn x.2 := fun x hx => by
 have : seat x ∈ l.map seat := by rw [← h]; exact List.mem_map_of_mem hx
 obtain ⟨y, hy, e⟩ := List.mem_map.1 this
 have e1 : y.1 = x.1 := (congrArg Prod.fst e : (seat y).1 = (seat x).1)
 have := hs x.1 y.2 x.2 (congrArg Prod.snd e : (seat y).2 = (seat x).2) (by rw [← e1]; exact hp y hy)
 exact this
theorem Loads.kns {v v' : Vt} (h : Loads v v') (hp : ∀ x ∈ v.ch, x.2.kn = some ⟨x.1.addr, x.1.gen, x.1.sum⟩) : ∀ x ∈ v'.ch, x.2.kn = some ⟨x.1.addr, x.1.gen, x.1.sum⟩ :=
 seat_all (P := fun c k _ => k = some ⟨c.addr, c.gen, c.sum⟩) h.ch hp fun c t t' e hk => by
  have : t.kn = t'.kn := (congrArg Vt.kn e : (seat (c, t)).2.kn = (seat (c, t')).2.kn)
  rw [← this]
  exact hk
theorem Loads.shf {f : Int → Option Blk} {v v' : Vt} (h : Loads v v') : ∀ {n : Nat}, Shf f n v → Shf f n v'
 | 0, hs => fun p hp => by rw [h.kn] at hp; rw [h.es]; exact hs p hp
 | n + 1, hs => by
  refine ⟨fun p hp => ?_, ?_⟩
  ·rw [h.kn] at hp
   obtain ⟨h1, h2, h3⟩ := hs.1 p hp
   rw [h.fst, h.us]
   exact ⟨h1, h2, h.kns h3⟩
  ·refine seat_all (P := fun _ _ t => Shf f n t) h.ch hs.2 fun c t t' e hk => ?_
   have h1 := (Shf_seat (f := f) (n := n) (t := t) (b := 0) (m := false) (l := t.ld)).2 hk
   have h2 : Shf f n (seat (c, t)).2 := h1
   rw [e] at h2
   exact (Shf_seat (f := f) (n := n) (t := t') (b := 0) (m := false) (l := t'.ld)).1 h2
theorem gv_shf {f : Int → Option Blk} {n : Nat} {v : Vt} (l : List Upd) (hk : v.kn = none) (h : Shf f n v) : Shf f n (gv n v l) := by
 cases n with
 | zero => exact fun p hp => by rw [(gv_kn 0 v l).1, hk] at hp; cases hp
 | succ n => exact ⟨fun p hp => (by rw [(gv_kn (n + 1) v l).1, hk] at hp; cases hp), h.2⟩
theorem fix_snd {P : Vt → Prop} {l : List (Chd × Vt)} (h : ∀ x ∈ l, P x.2) : ∀ x ∈ fixHead l, P x.2 := by
 cases l with
 | nil => exact h
 | cons y l =>
  intro x hx
  rcases List.mem_cons.1 hx with rfl | hx
  ·exact h y (by simp)
  ·exact h x (List.mem_cons_of_mem _ hx)
theorem HalfQ.shf {F n : Nat} {c : List UInt8} {t : Vt} {Q : List (Chd × Vt)} {f : Int → Option Blk} (h : HalfQ F c t Q) (hs : Shf f (n + 1) t) : ∀ x ∈ Q, Shf f (n + 1) x.2 := by
 obtain ⟨X, y, Y, ba, bb, e, -, -, -, rfl⟩ := h.ex
 have h2 := hs.2
 rw [e] at h2
 intro x hx
 simp only [List.mem_cons, List.not_mem_nil, or_false] at hx
 rcases hx with rfl | rfl
 ·exact ⟨fun p hp => (by cases hp), fun z hz => h2 z (List.mem_append_left _ hz)⟩
 ·exact ⟨fun p hp => (by cases hp), fix_snd (P := Shf f n) fun z hz => h2 z (List.mem_append_right _ hz)⟩
theorem put_all {P : Vt → Prop} {v : Vt} {A : List (Chd × Vt)} {x : Chd × Vt} {D Q : List (Chd × Vt)} (e : v.ch = A ++ x :: D) (h : ∀ z ∈ v.ch, P z.2) (hq : ∀ z ∈ Q, P z.2) : ∀ z ∈ A ++ (Q ++ D), P z.2 := fun z hz => by
 rcases List.mem_append.1 hz with hz | hz
 ·exact h z (by rw [e]; exact List.mem_append_left _ hz)
 ·rcases List.mem_append.1 hz with hz | hz
  ·exact hq z hz
  ·exact h z (by rw [e]; exact List.mem_append_right _ (List.mem_cons_of_mem _ hz))
theorem Sm.shf {F L : Nat} {n : Nat} {v v' : Vt} {g : List Int} {h : List Nat} {f : Int → Option Blk} (s : Sm F L n v v' g h) : Shf f n v → Shf f n v' := by
 induction s with
 | refl n v => exact id
 | trans _ _ ih1 ih2 => exact fun h => ih2 (ih1 h)
 | load hl => exact hl.shf
 | @soil n v p hp =>
  intro h
  cases n with
  | zero => exact fun p hp => by cases hp
  | succ n => exact ⟨fun p hp => (by cases hp), h.2⟩
 | @kid n v A c t t' D g h e hk _ ih =>
  intro hs
  have h2 := hs.2
  exact ⟨fun p hp => (by rw [show v.kn = some p from hp] at hk; cases hk), put_all (P := Shf f n) (Q := [(c, t')]) e h2 fun z hz => by
   rw [List.mem_singleton] at hz
   subst hz
   exact ih (h2 (c, t) (by rw [e]; simp))⟩
 | @kidLoad n v A c t t' D e hl =>
  intro hs
  have h2 := hs.2
  refine ⟨fun p hp => ?_, put_all (P := Shf f n) (Q := [(c, t')]) e h2 fun z hz => by
   rw [List.mem_singleton] at hz
   subst hz
   exact hl.shf (h2 (c, t) (by rw [e]; simp))⟩
  obtain ⟨a1, a2, a3⟩ := hs.1 p hp
  have e1 : (A ++ (c, t') :: D).map Prod.fst = v.cs := by rw [Vt.cs, e]; simp
  refine ⟨?_, ?_, fun x hx => ?_⟩
  ·show f p.a = some ⟨5, textN ((A ++ (c, t') :: D).map Prod.fst) v.us, p.g⟩
   rw [e1]; exact a1
  ·show NodeOk ((A ++ (c, t') :: D).map Prod.fst) v.us
   rw [e1]; exact a2
  ·have hx' : x ∈ A ++ (c, t') :: D := hx
   rw [e] at a3
   rcases List.mem_append.1 hx' with hx' | hx'
   ·exact a3 x (List.mem_append_left _ hx')
   ·rcases List.mem_cons.1 hx' with rfl | hx'
    ·show t'.kn = _
     rw [hl.kn]
     exact a3 (c, t) (by simp)
    ·exact a3 x (by simp [hx'])
 | @hand n v A c t D e hk ht _ =>
  intro hs
  have h2 := hs.2
  exact ⟨fun p hp => (by rw [show v.kn = some p from hp] at hk; cases hk), put_all (P := Shf f n) (Q := [(c, gv n t _)]) e h2 fun z hz => by
   rw [List.mem_singleton] at hz
   subst hz
   exact gv_shf _ ht (h2 (c, t) (by rw [e]; simp))⟩
 | @parts v A c t D Q e hk ht hL hP =>
  intro hs
  have h2 := hs.2
  exact ⟨fun p hp => (by rw [show v.kn = some p from hp] at hk; cases hk), fix_snd (P := Shf f 0) (put_all e h2 fun z hz p hp => by rw [(hP.leaf z hz).2.2.2.2] at hp; cases hp)⟩
 | @halve n v A c t D Q e hk ht hP =>
  intro hs
  have h2 := hs.2
  exact ⟨fun p hp => (by rw [show v.kn = some p from hp] at hk; cases hk), fix_snd (P := Shf f (n + 1)) (put_all e h2 (hP.shf (h2 (c, t) (by rw [e]; simp))))⟩
 | @drop v A c t D e hk ht he hne =>
  intro hs
  have h2 := hs.2
  exact ⟨fun p hp => (by rw [show v.kn = some p from hp] at hk; cases hk), fix_snd (P := Shf f 0) (put_all (Q := []) e h2 fun z hz => by simp at hz)⟩
structure Kept (v v' : Vt) : Prop where
 b : v'.b = v.b
 mem : v'.mem = v.mem
 kn : v'.kn = v.kn ∨ v'.kn = none
 ld : v.ld = true → v'.ld = true
theorem Sm.kept {F L : Nat} {n : Nat} {v v' : Vt} {g : List Int} {h : List Nat} (s : Sm F L n v v' g h) : Kept v v' := by
 induction s with
 | refl n v => exact ⟨rfl, rfl, Or.inl rfl, id⟩
 | trans _ _ ih1 ih2 => exact ⟨ih2.b.trans ih1.b, ih2.mem.trans ih1.mem, ih2.kn.elim (fun e => ih1.kn.imp (fun q => e.trans q) (fun q => e.trans q)) Or.inr, fun q => ih2.ld (ih1.ld q)⟩
 | load hl => exact ⟨hl.b, hl.mem, Or.inl hl.kn, fun _ => hl.ld⟩
 | soil => exact ⟨rfl, rfl, Or.inr rfl, id⟩
 | kid => exact ⟨rfl, rfl, Or.inl rfl, id⟩
 | kidLoad => exact ⟨rfl, rfl, Or.inl rfl, id⟩
 | hand => exact ⟨rfl, rfl, Or.inl rfl, id⟩
 | parts => exact ⟨rfl, rfl, Or.inl rfl, id⟩
 | halve => exact ⟨rfl, rfl, Or.inl rfl, id⟩
 | drop => exact ⟨rfl, rfl, Or.inl rfl, id⟩
open Go.RowKit
theorem chAt_pos (l : List Chd) (k : List UInt8) (h0 : 0 < l.length) (h : l[0].low = []) : ∀ j, 0 < j → 0 ≤ chAt l k j
 | 0, hj => absurd hj (by omega)
 | 1, _ => by rw [chAt_yes h0 (by rw [h]; exact bl_nil k)]; simp
 | j + 2, _ => by
  have := chAt_pos l k h0 h (j + 1) (by omega)
  unfold chAt
  split
  ·split <;> omega
  ·omega
theorem lowAt_get {cs : List Chd} {i : Nat} (h : i < cs.length) : lowAt cs i = cs[i].low := by
 unfold lowAt; rw [List.getElem?_eq_getElem h]; rfl
structure Bel (cs : List Chd) (k : List UInt8) (i : Nat) : Prop where
 lt : i < cs.length
 no : bl k (lowAt cs i) = false
 up : ∀ j, i < j → j < cs.length → bl k (lowAt cs j) = true
theorem chAt_iff (cs : List Chd) (k : List UInt8) (i : Nat) : ∀ n, n ≤ cs.length → (chAt cs k n = (i : Int) ↔ i < n ∧ bl k (lowAt cs i) = false ∧ ∀ j, i < j → j < n → bl k (lowAt cs j) = true)
 | 0, _ => by unfold chAt; constructor; · intro h; omega
              ·rintro ⟨h, -⟩; omega
 | n + 1, hn => by
  have ih := chAt_iff cs k i n (by omega)
  have hl : lowAt cs n = cs[n].low := lowAt_get (by omega)
  cases hb : bl k cs[n].low with
  | true =>
   rw [chAt_no (by omega) hb, ih]
   constructor
   ·rintro ⟨h1, h2, h3⟩
    refine ⟨by omega, h2, fun j hj hj2 => ?_⟩
    by_cases e : j = n
    ·subst e; rw [hl]; exact hb
    ·exact h3 j hj (by omega)
   ·rintro ⟨h1, h2, h3⟩
    have hin : i ≠ n := fun e => by subst e; rw [hl, hb] at h2; exact absurd h2 (by simp)
    exact ⟨by omega, h2, fun j hj hj2 => h3 j hj (by omega)⟩
  | false =>
   rw [chAt_yes (by omega) hb]
   constructor
   ·intro h
    obtain rfl : n = i := by omega
    exact ⟨by omega, by rw [hl]; exact hb, fun j _ _ => by omega⟩
   ·rintro ⟨h1, h2, h3⟩
    by_cases e : n = i
    ·omega
    ·have := h3 n (by omega) (by omega)
     rw [hl, hb] at this; exact absurd this (by simp)
theorem chOf_iff (cs : List Chd) (k : List UInt8) (i : Nat) : chOf cs k = (i : Int) ↔ Bel cs k i := by
 unfold chOf
 rw [chAt_iff cs k i _ (Nat.le_refl _)]
 exact ⟨fun ⟨h1, h2, h3⟩ => ⟨h1, h2, h3⟩, fun h => ⟨h.lt, h.no, h.up⟩⟩
structure KidsOk (cs : List Chd) : Prop where
 pos : 0 < cs.length
 first : lowAt cs 0 = []
 rise : ∀ i j, i < j → j < cs.length → bl (lowAt cs i) (lowAt cs j) = true
theorem KidsOk.bel {cs : List Chd} (h : KidsOk cs) (k : List UInt8) : ∃ i : Nat, chOf cs k = (i : Int) ∧ Bel cs k i := by
 have h1 : 0 ≤ chOf cs k := chAt_pos cs k h.pos (by rw [← lowAt_get h.pos]; exact h.first) _ h.pos
 obtain ⟨i, hi⟩ := Int.eq_ofNat_of_zero_le h1
 exact ⟨i, hi, (chOf_iff cs k i).1 hi⟩
theorem KidsOk.high_ne {cs : List Chd} (h : KidsOk cs) {i : Nat} (hi : 0 < i) (hl : i < cs.length) : (lowAt cs i).isEmpty = false := by
 have := h.rise 0 i hi hl
 cases e : lowAt cs i with
 | nil => rw [e, bl_nil] at this; exact absurd this (by simp)
 | cons a l => rfl
theorem within_bel {cs : List Chd} (h : KidsOk cs) (k : List UInt8) (i : Nat) (hi : i < cs.length) : withinB k (rngLow cs (i : Int)) (rngHigh cs (i : Int)) = decide (chOf cs k = (i : Int)) := by
 have hlo : rngLow cs (i : Int) = lowAt cs i := by unfold rngLow lowAt; rw [if_neg (by omega)]; rfl
 have hhi : rngHigh cs (i : Int) = lowAt cs (i + 1) := by unfold rngHigh lowAt; rw [if_neg (by omega), if_pos (by simpa using hi)]; rfl
 rw [hlo, hhi, Bool.eq_iff_iff, decide_eq_true_iff, chOf_iff]
 unfold withinB
 simp only [Bool.and_eq_true, Bool.not_eq_true', Bool.or_eq_true]
 constructor
 ·rintro ⟨h1, h2⟩
  refine ⟨hi, h1, fun j hj hjl => ?_⟩
  rcases h2 with h2 | h2
  ·rw [h.high_ne (by omega) (by omega)] at h2; exact absurd h2 (by simp)
  ·by_cases e : j = i + 1
   ·subst e; exact h2
   ·exact bl_trans h2 (h.rise (i + 1) j (by omega) hjl)
 ·intro hb
  refine ⟨hb.no, ?_⟩
  by_cases e : i + 1 < cs.length
  ·exact Or.inr (hb.up (i + 1) (by omega) e)
  ·left; unfold lowAt; rw [List.getElem?_eq_none (by omega)]; rfl
theorem cutIn_bel {cs : List Chd} (h : KidsOk cs) {us : List Upd} (hr : Rising Upd.key us) (i : Nat) (hi : i < cs.length) : cutIn us (rngLow cs (i : Int)) (rngHigh cs (i : Int)) = us.filter (fun u => decide (chOf cs u.key = (i : Int))) := by
 rw [(cut_filter hr _ _).1]
 congr 1; funext u; exact within_bel h u.key i hi
theorem filter_len_le (l : List Upd) (p q : Upd → Bool) : ((l.filter p).filter q).length ≤ (l.filter q).length := by
 rw [List.filter_filter, List.filter_congr (q := fun a => p a && q a) (fun x _ => Bool.and_comm _ _), ← List.filter_filter]
 exact List.length_filter_le _ _
theorem filter_both2 (l : List Upd) (p : Upd → Bool) : (l.filter p).length + (l.filter fun u => !p u).length = l.length := by
 induction l with
 | nil => rfl
 | cons u t ih =>
  cases hp : p u with
  | true => rw [List.filter_cons_of_pos hp, List.filter_cons_of_neg (by simp [hp])]; simp only [List.length_cons]; omega
  | false => rw [List.filter_cons_of_neg (by simp [hp]), List.filter_cons_of_pos (by simp [hp])]; simp only [List.length_cons]; omega
theorem cnt_sum (cs : List Chd) (m : Int) : ∀ (n : Nat) (us : List Upd), (∀ u ∈ us, 0 ≤ chOf cs u.key ∧ chOf cs u.key < (n : Int)) → (∀ i : Nat, i < n → ((us.filter fun u => decide (chOf cs u.key = (i : Int))).length : Int) ≤ m) → (us.length : Int) ≤ m * (n : Int)
 | 0, us, h, _ => by
  cases us with
  | nil => simp
  | cons u l => have := h u (by simp); omega
 | n + 1, us, h, hm => by
  have h1 := cnt_sum cs m n (us.filter fun u => !decide (chOf cs u.key = (n : Int))) (fun u hu => by
   obtain ⟨h1, h2⟩ := List.mem_filter.1 hu
   have := h u h1
   simp at h2
   omega) (fun i hi => by
   have := hm i (by omega)
   have h2 := filter_len_le us (fun u => !decide (chOf cs u.key = (n : Int))) (fun u => decide (chOf cs u.key = (i : Int)))
   omega)
  have h2 := filter_both2 us (fun u => decide (chOf cs u.key = (n : Int)))
  have h3 := hm n (by omega)
  have e : m * ((n + 1 : Nat) : Int) = m * (n : Int) + m := by rw [Int.natCast_succ, Int.mul_add, Int.mul_one]
  rw [e]
  omega
theorem kidsOk_of {n : Nat} {lo hi : List UInt8} {v : Vt} (h : Ok (n + 1) lo hi v) : KidsOk v.cs := by
 have hk := h.okk
 have hf := h.2.2.2.2.1
 have hr := hk.rising
 have hne := hk.ne
 cases hc : v.ch with
 | nil => exact absurd hc hne
 | cons x l =>
  rw [hc] at hf hr hk
  have hx := hf x rfl
  rw [List.tail_cons] at hr
  have e : v.cs = x.1 :: l.map Prod.fst := by rw [Vt.cs, hc]; rfl
  refine ⟨by rw [e]; simp, by rw [e]; exact hx, fun i j hij hj => ?_⟩
  rw [e] at hj ⊢
  rw [List.length_cons, List.length_map] at hj
  have hl : ∀ j (hj : j < l.length), lowAt (x.1 :: l.map Prod.fst) (j + 1) = lw l[j] := fun j hj => by
   unfold lowAt
   rw [List.getElem?_cons_succ, List.getElem?_map, List.getElem?_eq_getElem hj]
   rfl
  obtain ⟨j, rfl⟩ : ∃ j', j = j' + 1 := ⟨j - 1, by omega⟩
  rw [hl j (by omega)]
  cases i with
  | zero =>
   show bl x.1.low _ = true
   rw [show x.1.low = [] from hx]
   exact bl_pos (bl_ne_nil ((hk.lo_lt _ (by rw [List.tail_cons]; exact List.getElem_mem (by omega : j < l.length))).1))
  | succ i =>
   rw [hl i (by omega)]
   exact List.pairwise_iff_getElem.1 hr i j (by omega) (by omega) (by omega)
theorem rng_at {A D : List (Chd × Vt)} {c : Chd} {t : Vt} {v : Vt} (e : v.ch = A ++ (c, t) :: D) : rngLow v.cs (A.length : Int) = c.low ∧ rngHigh v.cs (A.length : Int) = hdL D := by
 have ec : v.cs = A.map Prod.fst ++ c :: D.map Prod.fst := by rw [Vt.cs, e]; simp
 refine ⟨?_, ?_⟩
 ·unfold rngLow
  rw [if_neg (by omega), ec, Int.toNat_natCast, List.getElem?_append_right (by rw [List.length_map]; exact Nat.le_refl _), List.length_map, Nat.sub_self]
  rfl
 ·unfold rngHigh
  rw [if_neg (by omega), ec, Int.toNat_natCast, if_pos (by simp), List.getElem?_append_right (by rw [List.length_map]; omega), List.length_map]
  rw [show A.length + 1 - A.length = 1 by omega]
  cases D with
  | nil => rfl
  | cons y D => rfl
theorem step_plain {n : Nat} {lo hi : List UInt8} {v : Vt} (ho : Ok (n + 1) lo hi v) (hus : v.us ≠ []) : ∃ A c t D, v.ch = A ++ (c, t) :: D ∧ topL (cntAt v.cs v.us) 1 = [((A.length : Nat) : Int)] ∧ (∃ hk : A.length < (cntAt v.cs v.us).length, ¬ (cntAt v.cs v.us)[A.length] < 1) ∧ rngLow v.cs (A.length : Int) = c.low ∧ rngHigh v.cs (A.length : Int) = hdL D ∧ 0 < (cutIn v.us c.low (hdL D)).length ∧ v.us.length ≤ v.ch.length * (cutIn v.us c.low (hdL D)).length := by
 have hK := kidsOk_of ho
 have hpos := hK.pos
 obtain ⟨k, hk, htop, hbest⟩ := top_one (cntAt v.cs v.us) (by rw [cntAt_len]; exact hpos)
 have hkl : k < v.ch.length := by rw [cntAt_len, List.length_map] at hk; exact hk
 have hsplit : v.ch = v.ch.take k ++ (v.ch[k].1, v.ch[k].2) :: v.ch.drop (k + 1) := by
  have := List.take_append_drop k v.ch
  rw [List.drop_eq_getElem_cons hkl] at this
  exact this.symm
 have hlen : (v.ch.take k).length = k := by rw [List.length_take]; omega
 obtain ⟨h1, h2⟩ := rng_at hsplit
 have hcut := cutIn_bel hK ho.usr k (by rw [List.length_map]; exact hkl)
 rw [hlen] at h1 h2
 rw [h1, h2] at hcut
 have hcnt : (cntAt v.cs v.us)[k] = ((cutIn v.us v.ch[k].1.low (hdL (v.ch.drop (k + 1)))).length : Int) := by
  rw [cntAt_get, hcut]
 have hsum := cnt_sum v.cs ((cntAt v.cs v.us)[k]) v.cs.length v.us (fun u _ => by
  obtain ⟨i, hi, hb⟩ := hK.bel u.key
  rw [hi]
  have := hb.lt
  omega) (fun i hi => by
  have := hbest _ (List.getElem_mem (l := cntAt v.cs v.us) (n := i) (by rw [cntAt_len]; exact hi))
  rw [cntAt_get] at this
  exact this)
 have hul : 0 < v.us.length := List.length_pos_iff.2 hus
 have hle : v.us.length ≤ v.ch.length * (cutIn v.us v.ch[k].1.low (hdL (v.ch.drop (k + 1)))).length := by
  rw [hcnt, List.length_map] at hsum
  have h3 : (v.us.length : Int) ≤ ((v.ch.length * (cutIn v.us v.ch[k].1.low (hdL (v.ch.drop (k + 1)))).length : Nat) : Int) := by
   rw [Int.natCast_mul, Int.mul_comm]
   exact hsum
  omega
 have hc0 : 0 < (cutIn v.us v.ch[k].1.low (hdL (v.ch.drop (k + 1)))).length := by
  rcases Nat.eq_zero_or_pos (cutIn v.us v.ch[k].1.low (hdL (v.ch.drop (k + 1)))).length with h0 | h0
  ·rw [h0, Nat.mul_zero] at hle; omega
  ·exact h0
 refine ⟨v.ch.take k, v.ch[k].1, v.ch[k].2, v.ch.drop (k + 1), hsplit, ?_, ⟨by rw [hlen]; exact hk, ?_⟩, ?_, ?_, hc0, hle⟩
 ·rw [hlen]; exact htop
 ·have : (cntAt v.cs v.us)[(v.ch.take k).length]'(by rw [hlen]; exact hk) = (cntAt v.cs v.us)[k] := by congr 1
  rw [this, hcnt]
  omega
 ·rw [hlen]; exact h1
 ·rw [hlen]; exact h2
open Go.RowKit
def scK (f : Vt → List Upd → List Ent) (all : List Upd) : List (Chd × Vt) → List Ent
 | [] => []
 | x :: r => f x.2 (cutIn all (lw x) (hdL r)) ++ scK f all r
def en : Nat → Vt → List Ent
 | 0, v => v.es
 | n + 1, v => scK (fun t I => en n (gv n t I)) v.us v.ch
def enG (n : Nat) (v : Vt) (above : List Upd) : List Ent := en n (gv n v above)
theorem en_succ (n : Nat) (v : Vt) : en (n + 1) v = scK (enG n) v.us v.ch := rfl
theorem scK_cons (f : Vt → List Upd → List Ent) (all : List Upd) (x : Chd × Vt) (r : List (Chd × Vt)) : scK f all (x :: r) = f x.2 (cutIn all (lw x) (hdL r)) ++ scK f all r := rfl
structure EnOk (n : Nat) (lo hi : List UInt8) (v : Vt) : Prop where
 rise : Rising Ent.key (en n v)
 ent : ∀ e ∈ en n v, EntOk e ∧ withinB e.key lo hi = true
 look : ∀ q, withinB q lo hi = true → lookE (en n v) q = den n v q
structure EnK (n : Nat) (lo hi : List UInt8) (us : List Upd) (l : List (Chd × Vt)) : Prop where
 rise : Rising Ent.key (scK (enG n) us l)
 ent : ∀ e ∈ scK (enG n) us l, EntOk e ∧ withinB e.key lo hi = true
 look : ∀ q, withinB q lo hi = true → lookE (scK (enG n) us l) q = actO (getL us q) (denK n l q)
theorem under_nil (k : List UInt8) : under k [] := Or.inl rfl
theorem scK_one {n : Nat} (IH : ∀ lo hi v, Ok n lo hi v → EnOk n lo hi v) {us : List Upd} {lo0 hi0 : List UInt8} (hr : Rising Upd.key us) (hu : ∀ u ∈ us, Tm u ∧ withinB u.key lo0 hi0 = true) {lo hi low high : List UInt8} {t : Vt} (ht : Ok n lo hi t) (hw : ∀ q, withinB q lo0 hi0 = true → withinB q low high = true → withinB q lo hi = true) (hb : ∀ q, withinB q lo hi = true → withinB q low high = true) :
  Rising Ent.key (enG n t (cutIn us low high)) ∧ (∀ e ∈ enG n t (cutIn us low high), EntOk e ∧ withinB e.key lo hi = true) ∧ ∀ q, withinB q lo hi = true → lookE (enG n t (cutIn us low high)) q = actO (getL us q) (den n t q) := by
 have hG := Given.cut (low := low) (high := high) hr hu hw
 obtain ⟨h1, h2, h3⟩ := IH lo hi _ (gv_ok ht hG)
 refine ⟨h1, h2, fun q hq => ?_⟩
 have := h3 q hq
 unfold enG
 rw [this, gv_den ht hG q, getL_cutIn hr, if_pos (hb q hq)]
theorem scK_good {n : Nat} (IH : ∀ lo hi v, Ok n lo hi v → EnOk n lo hi v) {us : List Upd} {lo0 hi : List UInt8} (hr : Rising Upd.key us) (hu : ∀ u ∈ us, Tm u ∧ withinB u.key lo0 hi = true) :
  ∀ (l : List (Chd × Vt)) (lo : List UInt8), OkK (Ok n) hi lo l → (∀ x r, l = x :: r → (lo = lo0 ∧ lw x = []) ∨ lo = lw x) → EnK n lo hi us l
 | [], _, h, _ => absurd h id
 | [x], lo, h, k => by
  have hx := k x [] rfl
  obtain ⟨h1, h2, h3⟩ := scK_one IH hr hu (low := lw x) (high := []) (OkK.one.1 h) (fun q a b => by
   rcases hx with ⟨rfl, -⟩ | rfl
   ·exact a
   ·exact withinB_iff.2 ⟨(withinB_iff.1 b).1, (withinB_iff.1 a).2⟩) (fun q a => by
   refine withinB_iff.2 ⟨?_, under_nil q⟩
   rcases hx with ⟨-, e⟩ | rfl
   ·rw [e]; exact bl_nil q
   ·exact (withinB_iff.1 a).1)
  have e : scK (enG n) us [x] = enG n x.2 (cutIn us (lw x) []) := by rw [scK_cons]; show _ ++ [] = _; rw [List.append_nil]; rfl
  exact ⟨by rw [e]; exact h1, by rw [e]; exact h2, by rw [e]; exact h3⟩
 | x :: y :: r, lo, h, k => by
  have hx := k x (y :: r) rfl
  obtain ⟨g1, g2, g3, g4⟩ := OkK.two.1 h
  obtain ⟨h1, h2, h3⟩ := scK_one IH hr hu (low := lw x) (high := lw y) g3 (fun q a b => by
   rcases hx with ⟨rfl, -⟩ | rfl
   ·exact withinB_iff.2 ⟨(withinB_iff.1 a).1, (withinB_iff.1 b).2⟩
   ·exact b) (fun q a => by
   refine withinB_iff.2 ⟨?_, (withinB_iff.1 a).2⟩
   rcases hx with ⟨-, e⟩ | rfl
   ·rw [e]; exact bl_nil q
   ·exact (withinB_iff.1 a).1)
  obtain ⟨k1, k2, k3⟩ := scK_good IH hr hu (y :: r) (lw y) g4 (fun x r e => by
   simp only [List.cons.injEq] at e
   obtain ⟨rfl, -⟩ := e
   exact Or.inr rfl)
  have hyn : lw y ≠ [] := bl_ne_nil g1
  have hA : ∀ e ∈ enG n x.2 (cutIn us (lw x) (lw y)), bl e.key (lw y) = true := fun e he => ((withinB_iff.1 (h2 e he).2).2).elim (fun q => absurd q hyn) id
  have hB : ∀ e ∈ scK (enG n) us (y :: r), bl e.key (lw y) = false := fun e he => (withinB_iff.1 (k2 e he).2).1
  rw [show scK (enG n) us (y :: r) = scK (enG n) us (y :: r) from rfl] at k1
  have e0 : scK (enG n) us (x :: y :: r) = enG n x.2 (cutIn us (lw x) (lw y)) ++ scK (enG n) us (y :: r) := scK_cons _ _ _ _
  refine ⟨?_, ?_, fun q hq => ?_⟩
  ·rw [e0]
   exact List.pairwise_append.2 ⟨h1, k1, fun a ha b hb => by
    rcases bl_not (hB b hb) with q | q
    ·rw [← q]; exact hA a ha
    ·exact bl_trans (hA a ha) q⟩
  ·rw [e0]
   intro e he
   rcases List.mem_append.1 he with he | he
   ·obtain ⟨a, b⟩ := h2 e he
    refine ⟨a, withinB_iff.2 ⟨(withinB_iff.1 b).1, ?_⟩⟩
    exact g2.lt (hA e he)
   ·obtain ⟨a, b⟩ := k2 e he
    exact ⟨a, withinB_iff.2 ⟨bl_down (withinB_iff.1 b).1 g1, (withinB_iff.1 b).2⟩⟩
  ·rw [e0, lookE_append, denK_two]
   cases hqy : bl q (lw y) with
   | true =>
    rw [if_pos rfl, lookE_above hB hqy, h3 q (withinB_iff.2 ⟨(withinB_iff.1 hq).1, Or.inr hqy⟩)]
    cases actO (getL us q) (den n x.2 q) <;> rfl
   | false =>
    rw [if_neg (by simp), lookE_under hA hqy]
    exact k3 q (withinB_iff.2 ⟨hqy, (withinB_iff.1 hq).2⟩)
theorem en_good : ∀ (n : Nat) (lo hi : List UInt8) (v : Vt), Ok n lo hi v → EnOk n lo hi v
 | 0, lo, hi, v, h => ⟨h.rise0, h.2.2.2, fun _ _ => rfl⟩
 | n + 1, lo, hi, v, h => by
  obtain ⟨-, h1, h2, -, h4, h5⟩ := h
  obtain ⟨k1, k2, k3⟩ := scK_good (en_good n) h1 h2 v.ch lo h5 (fun x r e => Or.inl ⟨rfl, h4 x (by rw [e]; rfl)⟩)
  exact ⟨k1, k2, fun q hq => (k3 q hq).trans (den_succ n v q).symm⟩
theorem enG_good {n : Nat} {lo hi : List UInt8} {v : Vt} {above : List Upd} (h : Ok n lo hi v) (hg : Given lo hi above) : EnOk n lo hi (gv n v above) := en_good n lo hi _ (gv_ok h hg)
theorem within_all (q : List UInt8) : withinB q [] [] = true := withinB_iff.2 ⟨bl_nil q, Or.inl rfl⟩
theorem en_all {n : Nat} {v : Vt} (h : Ok n [] [] v) : Rising Ent.key (en n v) ∧ (∀ e ∈ en n v, EntOk e) ∧ ∀ q, lookE (en n v) q = den n v q :=
 let k := en_good n [] [] v h
 ⟨k.rise, fun e he => (k.ent e he).1, fun q => k.look q (within_all q)⟩
theorem en_seat (n : Nat) (t : Vt) (b : Nat) (m l : Bool) (k : Option Pt) : en n { t with b := b, mem := m, ld := l, kn := k } = en n t := by cases n <;> rfl
theorem gv_seat (n : Nat) (t : Vt) (b : Nat) (m l : Bool) (k : Option Pt) (u : List Upd) : gv n { t with b := b, mem := m, ld := l, kn := k } u = { gv n t u with b := b, mem := m, ld := l, kn := k } := by cases n <;> rfl
theorem enG_seat (n : Nat) (t : Vt) (b : Nat) (m l : Bool) (k : Option Pt) (u : List Upd) : enG n { t with b := b, mem := m, ld := l, kn := k } u = enG n t u := by
 unfold enG
 rw [gv_seat, en_seat]
theorem scK_seat (n : Nat) (all : List Upd) : ∀ l : List (Chd × Vt), scK (enG n) all (l.map seat) = scK (enG n) all l
 | [] => rfl
 | x :: r => by
  rw [List.map_cons, scK_cons, scK_cons, scK_seat n all r]
  have e1 : hdL (r.map seat) = hdL r := by cases r <;> rfl
  have e2 : enG n (seat x).2 (cutIn all (lw x) (hdL r)) = enG n x.2 (cutIn all (lw x) (hdL r)) := enG_seat n x.2 0 false x.2.ld x.2.kn _
  rw [e1]
  show enG n (seat x).2 (cutIn all (lw x) (hdL r)) ++ _ = _
  rw [e2]
theorem Loads.enG {v v' : Vt} (h : Loads v v') (u : List Upd) : ∀ n, enG n v' u = enG n v u
 | 0 => by
  show onAll v'.es u = onAll v.es u
  rw [h.es]
 | n + 1 => by
  show scK (YtafciefjlkdecaaGreat.enG n) (u.foldl withL v'.us) v'.ch = scK (YtafciefjlkdecaaGreat.enG n) (u.foldl withL v.us) v.ch
  rw [h.us, ← scK_seat n _ v'.ch, h.ch, scK_seat]
def scI (f : Vt → List Upd → List Ent) (all : List Upd) (v : Vt) (j : Nat) : List Ent := (List.range j).flatMap fun i => match v.ch[i]? with | none => [] | some x => f x.2 (cutIn all (rngLow v.cs (i : Int)) (rngHigh v.cs (i : Int)))
theorem scI_zero (f : Vt → List Upd → List Ent) (all : List Upd) (v : Vt) : scI f all v 0 = [] := rfl
theorem scI_succ (f : Vt → List Upd → List Ent) (all : List Upd) (v : Vt) (j : Nat) (hj : j < v.ch.length) : scI f all v (j + 1) = scI f all v j ++ f v.ch[j].2 (cutIn all (rngLow v.cs (j : Int)) (rngHigh v.cs (j : Int))) := by
 unfold scI
 rw [List.range_succ, List.flatMap_append]
 congr 1
 simp only [List.flatMap_cons, List.flatMap_nil, List.append_nil]
 rw [List.getElem?_eq_getElem hj]
theorem scI_all (f : Vt → List Upd → List Ent) (all : List Upd) (v : Vt) : ∀ (D A : List (Chd × Vt)), v.ch = A ++ D → scI f all v v.ch.length = scI f all v A.length ++ scK f all D
 | [], A, e => by
  rw [e, List.append_nil]
  show _ = _ ++ []
  rw [List.append_nil]
 | x :: D, A, e => by
  obtain ⟨r1, r2⟩ := rng_at (c := x.1) (t := x.2) e
  have h1 := scI_all f all v D (A ++ [x]) (by rw [e]; simp)
  have hj : A.length < v.ch.length := by rw [e]; simp
  have h2 := scI_succ f all v A.length hj
  have h3 : v.ch[A.length] = x := by
   have : v.ch[A.length]? = some x := by rw [e]; simp
   rw [List.getElem?_eq_getElem hj] at this
   exact Option.some.inj this
  rw [h1, List.length_append, List.length_singleton, h2, h3, r1, r2, scK_cons, List.append_assoc]
theorem en_index (n : Nat) (v : Vt) : en (n + 1) v = scI (enG n) v.us v v.ch.length := by
 rw [scI_all (enG n) v.us v v.ch [] rfl, List.length_nil, scI_zero, List.nil_append, en_succ]
theorem kid_in {n : Nat} {lo hi : List UInt8} {v : Vt} (h : Ok (n + 1) lo hi v) (j : Nat) (hj : j < v.ch.length) : ∃ lo' hi', Ok n lo' hi' v.ch[j].2 ∧ Given lo' hi' (cutIn v.us (rngLow v.cs (j : Int)) (rngHigh v.cs (j : Int))) ∧
  ∀ q, withinB q lo' hi' = true → withinB q (rngLow v.cs (j : Int)) (rngHigh v.cs (j : Int)) = true := by
 have e : v.ch = v.ch.take j ++ (v.ch[j].1, v.ch[j].2) :: v.ch.drop (j + 1) := by
  have := List.take_append_drop j v.ch
  rw [List.drop_eq_getElem_cons hj] at this
  exact this.symm
 have hlen : (v.ch.take j).length = j := by rw [List.length_take]; omega
 obtain ⟨h1, h2⟩ := rng_at e
 rw [hlen] at h1 h2
 have hm := h.mid e
 have hA0 : v.ch.take j = [] → v.ch[j].1.low = [] := fun q => by
  have hj0 : j = 0 := by
   have := congrArg List.length q
   rw [hlen] at this
   simpa using this
  subst hj0
  exact h.2.2.2.2.1 v.ch[0] (List.getElem?_eq_getElem hj)
 refine ⟨_, _, hm.t, ?_, fun q hq => ?_⟩
 ·rw [h1, h2]
  exact Given.cut h.usr h.2.2.1 fun q a b => loA_le hm a b
 ·rw [h1, h2]
  exact (loA_back hm hA0 hq).2
open Go.RowKit
attribute [local go_sem ↓] Go.wp_at_zero Go.wp_at_succ
theorem infoVx : (Tryz.prog.info? 97).map (fun i => (i.zero, i.size, i.bytes)) = some (some (.pointer none), 1, 8) := by kernel_rfl
abbrev vp (b : Nat) : Value := .pointer (some ⟨b, 0, none⟩)
abbrev Known (w : World) (b : Nat) (c : Chd) : Prop := VxAt w b true c.addr c.gen c.sum false (.slice none 0 0) (.slice none 0 0) (.slice none 0 0) (.slice none 0 0)
structure KidsTo (w5 : World) (ob : Nat) (pa : Int) (pg ps : Nat) (a1 : Option Addr) (c1 : Nat) (u : Value) (cs : List Chd) (ks : List Nat) (a3 : Option Addr) (c3 : Nat) (j : Nat) (w : World) : Prop where
 keep : Keep (fun b => b = ob) w5 w
 vx : VxAt w ob true pa pg ps true (.slice none 0 0) (.slice a1 cs.length c1) u (.slice a3 j c3)
 row : w.ownsRow w5.heap.size 97 1 (.slice a3 j c3) j (ks.map vp)
 len : ks.length = j
 kid : ∀ i c, cs[i]? = some c → i < j → ∃ b, ks[i]? = some b ∧ Known w b c ∧ w5.heap.size ≤ b
theorem KidsTo.on {w5 : World} {ob : Nat} {pa : Int} {pg ps : Nat} {a1 : Option Addr} {c1 : Nat} {u : Value} {cs : List Chd} {ks : List Nat} {a3 : Option Addr} {c3 : Nat} {j : Nat} {w w' : World} (h : KidsTo w5 ob pa pg ps a1 c1 u cs ks a3 c3 j w) (hb : Below w.heap.size w w') : KidsTo w5 ob pa pg ps a1 c1 u cs ks a3 c3 j w' :=
 ⟨h.keep.on hb, h.vx.on hb, own_below h.row hb, h.len, fun i c hc hi => by
  obtain ⟨b, h1, h2, h3⟩ := h.kid i c hc hi
  exact ⟨b, h1, h2.on hb, h3⟩⟩
theorem VxAt.putK {w : World} {b : Nat} {kn : Bool} {pa : Int} {pg ps : Nat} {ld : Bool} {lf cs us ks : Value} (h : VxAt w b kn pa pg ps ld lf cs us ks) (v : Value) : VxAt (w.setCell ⟨b, 8, none⟩ v) b kn pa pg ps ld lf cs us v := ⟨h.row.put 8 v⟩
theorem KidsTo.more {w5 : World} {ob : Nat} {pa : Int} {pg ps : Nat} {a1 : Option Addr} {c1 : Nat} {u : Value} {cs : List Chd} {ks : List Nat} {a3 a3' : Option Addr} {c3 c3' : Nat} {j : Nat} {w wz : World} {kb : Nat} {c : Chd} (h : KidsTo w5 ob pa pg ps a1 c1 u cs ks a3 c3 j w) (hk : Known w kb c) (hkb : w5.heap.size ≤ kb) (hc : cs[j]? = some c)
  (hg : w.grownBy wz (Value.slice a3 j c3).ownBlock) (hr : wz.ownsRow w5.heap.size 97 1 (.slice a3' (j + 1) c3') (j + 1) (ks.map vp ++ [vp kb])) (hob : ob < w5.heap.size) (hrow : ∀ g, (Value.slice a3 j c3).ownBlock = some g → ∃ cur, RowIs w 97 g cur) :
  KidsTo w5 ob pa pg ps a1 c1 u cs (ks ++ [kb]) a3' c3' (j + 1) (wz.setCell ⟨ob, 8, none⟩ (.slice a3' (j + 1) c3')) := by
 have hne : ∀ b kn pa pg ps ld lf cs us kk, VxAt w b kn pa pg ps ld lf cs us kk → some b ≠ (Value.slice a3 j c3).ownBlock := fun b kn pa pg ps ld lf cs us kk hv e => by
  obtain ⟨cur, hcur⟩ := hrow b e.symm
  have h1 := hv.row
  unfold RowIs at h1 hcur
  rw [hcur] at h1
  simp at h1
 have hv : ∀ {b kn pa pg ps ld lf cs us kk}, VxAt w b kn pa pg ps ld lf cs us kk → VxAt wz b kn pa pg ps ld lf cs us kk := fun hx => ⟨hx.row.kept hg (hne _ _ _ _ _ _ _ _ _ _ hx)⟩
 have hgz : ∀ k, (Value.slice a3 j c3).ownBlock = some k → w5.heap.size ≤ k := fun k e => (h.row.lt k e).1
 refine ⟨((h.keep.grown hg fun k e => Or.inr (hgz k e)).setCell ⟨ob, 8, none⟩ (Or.inl rfl) _), (hv h.vx).putK _, ?_, by simp [h.len], fun i c' hc' hi => ?_⟩
 ·rw [List.map_append]
  exact ownsRow_setCell_other (a := ⟨ob, 8, none⟩) hr (fun e => by have := (hr.lt ob e).1; omega) _
 ·by_cases hij : i < j
  ·obtain ⟨b, h1, h2, h3⟩ := h.kid i c' hc' hij
   exact ⟨b, by rw [List.getElem?_append_left (by rw [h.len]; exact hij)]; exact h1, (hv h2).far _ (by show b ≠ ob; omega) _, h3⟩
  ·obtain rfl : i = j := by omega
   rw [hc] at hc'
   obtain rfl := Option.some.inj hc'
   exact ⟨kb, by rw [List.getElem?_append_right (by rw [h.len]; exact Nat.le_refl _), h.len]; simp, (hv hk).far _ (by show kb ≠ ob; omega) _, hkb⟩
theorem VxAt.putN {w : World} {b : Nat} {kn : Bool} {pa : Int} {pg ps : Nat} {ld : Bool} {lf cs us ks : Value} (h : VxAt w b kn pa pg ps ld lf cs us ks) (u v : Value) : VxAt ((w.setCell ⟨b, 6, none⟩ u).setCell ⟨b, 7, none⟩ v) b kn pa pg ps ld lf u v ks := ⟨(h.row.put 6 u).put 7 v⟩
structure NodeGot (w : World) (N : Nat) (pay : List UInt8) (pa : Int) (pg ps : Nat) (e : Ending) (w' : World) (ob : Nat) (cs : List Chd) (us : List Upd) (ks : List Nat) (a1 : Option Addr) (c1 : Nat) (a2 : Option Addr) (c2 : Nat) (a3 : Option Addr) (c3 : Nat) : Prop where
 ret : e = .returned (.tuple #[.pointer (some ⟨ob, 0, none⟩), .bool true, .int .i64 0])
 text : pay = textN cs us
 ok : NodeOk cs us
 new : w.heap.size ≤ ob
 vx : VxAt w' ob true pa pg ps true (.slice none 0 0) (.slice a1 cs.length c1) (.slice a2 us.length c2) (.slice a3 cs.length c3)
 node : NodeAt w' (.agg #[.slice a1 cs.length c1, .slice a2 us.length c2]) cs us
 row : w'.ownsRow N 97 1 (.slice a3 cs.length c3) cs.length (ks.map vp)
 rowC : w'.ownsRow w.heap.size 179 4 (.slice a1 cs.length c1) cs.length (cellsC cs)
 rowU : w'.ownsRow w.heap.size 39 4 (.slice a2 us.length c2) us.length (cellsU us)
 len : ks.length = cs.length
 kid : ∀ (i : Nat) (c : Chd), cs[i]? = some c → ∃ b, ks[i]? = some b ∧ Known w' b c ∧ N ≤ b
open Go.RowKit
attribute [local go_sem ↓] Go.wp_at_zero Go.wp_at_succ
structure ShelfAt (w : World) (sb mb n sz : Nat) (f : Int → Option Blk) (gen : Nat) (wrong : Int) : Prop where
 row : RowIs w 27 sb [.map (some mb), .int .u64 gen, .int .i64 wrong]
 map : ShMap w mb n sz f
section
variable {w w' : World} {sb mb n sz : Nat} {f : Int → Option Blk} {gen : Nat} {wrong : Int}
theorem ShelfAt.on (h : ShelfAt w sb mb n sz f gen wrong) (hb : Below w.heap.size w w') : ShelfAt w' sb mb n sz f gen wrong := ⟨h.row.on hb, h.map.on hb⟩
theorem ShelfAt.kept {B : Nat} (h : ShelfAt w sb mb n sz f gen wrong) (hb : Below B w w') (hB : w.heap.size ≤ B) : ShelfAt w' sb mb n sz f gen wrong := h.on (hb.mono hB)
theorem ShelfAt.ne (h : ShelfAt w sb mb n sz f gen wrong) : sb ≠ mb := fun e => by
 obtain ⟨D, ⟨es, clock, hb, _⟩, _⟩ := h.map.own
 have h1 := h.row
 subst e
 unfold RowIs at h1
 rw [hb] at h1
 simp at h1
theorem ShelfAt.c0 (h : ShelfAt w sb mb n sz f gen wrong) : w.cell? ⟨sb, 0, none⟩ = some (.map (some mb)) := h.row.cell 0
theorem ShelfAt.c1 (h : ShelfAt w sb mb n sz f gen wrong) : w.cell? ⟨sb, 1, none⟩ = some (.int .u64 gen) := h.row.cell 1
theorem ShelfAt.c2 (h : ShelfAt w sb mb n sz f gen wrong) : w.cell? ⟨sb, 2, none⟩ = some (.int .i64 wrong) := h.row.cell 2
end
theorem load_yes {sb mb n sz : Nat} {f : Int → Option Blk} {gen : Nat} (a : Nat) (ps : Nat) (b : Blk) (w : World) (h : ShelfAt w sb mb n sz f gen 0) (ha : a < 1000000) (hf : f (a : Int) = some b) :
  Calls Tryz.prog 11 #[.pointer (some ⟨sb, 0, none⟩), .agg #[.int .i64 a, .int .u64 b.gen, .int .u32 ps]] w fun e w' => e = .returned (.tuple #[.int .u8 b.kind, .string (S b.pay), .int .i64 0]) ∧ Below w.heap.size w w' := by
 have HH := Lib.hid h
 have hb0 := Below.refl w.heap.size w
 clear h
 go_enter Tryz.func11, Tryz.ntmps11
 go_upto_region 1 with (fail)
 obtain ⟨W, hW_W⟩ : ∃ W, W = (w.alloc (.cells #[.int .i64 a, .int .u64 b.gen, .int .u32 ps] 54)) := ⟨_, rfl⟩
 rw [← hW_W]
 have hX_W : Below w.heap.size w W := by rw [hW_W]; go_grown
 have gp0 : W.cell? ⟨w.heap.size, 0, none⟩ = some (.int .i64 a) := by rw [hW_W, World.cell?_alloc_at _ _ _ _ (by simp)]; rfl
 have gp1 : W.cell? ⟨w.heap.size, 1, none⟩ = some (.int .u64 b.gen) := by rw [hW_W, World.cell?_alloc_at _ _ _ _ (by simp)]; rfl
 have gp2 : W.cell? ⟨w.heap.size, 2, none⟩ = some (.int .u32 ps) := by rw [hW_W, World.cell?_alloc_at _ _ _ _ (by simp)]; rfl
 clear hW_W
 have hz_W := hX_W.size
 replace HH := Lib.hid (HH.out.kept hX_W (Nat.le_refl _))
 replace hb0 := hb0.trans (hX_W.mono hb0.size)
 clear hX_W
 have c0 := HH.out.c0
 have c2 := HH.out.c2
 go_upto_region 5 with (fail)
 have hl := HH.out.map.look a (by omega)
 rw [hf] at hl
 simp only [Option.getD_some, Option.isSome_some, blkV] at hl
 have hl2 := (HH.out.on (below_drew' (Below.refl W.heap.size W))).map.look a (by omega)
 rw [hf] at hl2
 simp only [Option.getD_some, Option.isSome_some, blkV] at hl2
 have hX1 : Below W.heap.size W (W.alloc (.cells #[.int .u8 0, .string ⟨#[]⟩, .int .u64 0] 86)).drew := below_drew' ((Below.refl _ _).alloc (Nat.le_refl _) _)
 have hl3 := (HH.out.on hX1).map.look a (by omega)
 rw [hf] at hl3
 simp only [Option.getD_some, Option.isSome_some, blkV] at hl3
 have e0 : ∀ x, (W.alloc x).cell? ⟨sb, 0, none⟩ = some (.map (some mb)) := fun x => (World.cell?_alloc_past _ _ _ HH.out.row.lt).trans c0
 have hgl := World.block_lt_of_cell? W _ gp0
 have e1 : ∀ x, (W.alloc x).cell? ⟨w.heap.size, 0, none⟩ = some (.int .i64 a) := fun x => (World.cell?_alloc_past _ _ _ hgl).trans gp0
 have e2 : ∀ x, (W.alloc x).cell? ⟨w.heap.size, 1, none⟩ = some (.int .u64 b.gen) := fun x => (World.cell?_alloc_past _ _ _ hgl).trans gp1
 go_region
 all_goals
  have hXz : Below w.heap.size w (W.alloc (.cells #[.int .u8 b.kind, .string (S b.pay), .int .u64 b.gen] 86)).drew.drew := below_drew' (below_drew' (hb0.alloc hb0.size _))
  go_upto_region 8 with (fail)
  go_region
  all_goals
   go_wp2_with fail
   go_returns
   exact ⟨rfl, hXz⟩
theorem save_any {sb mb n sz : Nat} {f : Int → Option Blk} {gen : Nat} {wrong : Int} (kd : Nat) (pay : List UInt8) (a : Nat) (w : World) (h : ShelfAt w sb mb n sz f gen wrong) (ha : a < 100000) (hfree : f (a : Int) = none) (hused : ∀ j : Nat, j < a → (f (j : Int)).isSome = true) (hn : n < 100000) (hg : gen < 1000000) :
  Calls Tryz.prog 20 #[.pointer (some ⟨sb, 0, none⟩), .int .u8 kd, .string (S pay)] w fun e w' => e = .returned (.tuple #[.agg #[.int .i64 a, .int .u64 (gen + 1 : Nat), .int .u32 0], .int .i64 0]) ∧ ShelfAt w' sb mb (n + 1) (sz + 1) (fun i => if i = (a : Int) then some ⟨kd, pay, gen + 1⟩ else f i) (gen + 1) wrong ∧ Keep (fun x => x = sb ∨ x = mb) w w' := by
 have HH := Lib.hid h
 have hb0 := Below.refl w.heap.size w
 have HU := Lib.hid hused
 clear h hused
 go_enter Tryz.func20, Tryz.ntmps20
 go_upto_region 1 with (fail)
 obtain ⟨W, hW_W⟩ : ∃ W, W = (w.alloc (.cells #[.int .i64 0, .int .u64 0, .int .u32 0] 54)) := ⟨_, rfl⟩
 rw [← hW_W]
 have hX_W : Below w.heap.size w W := by rw [hW_W]; go_grown
 have gr0 : W.cell? ⟨w.heap.size, 0, none⟩ = some (.int .i64 0) := by rw [hW_W, World.cell?_alloc_at _ _ _ _ (by simp)]; rfl
 have gr1 : W.cell? ⟨w.heap.size, 1, none⟩ = some (.int .u64 0) := by rw [hW_W, World.cell?_alloc_at _ _ _ _ (by simp)]; rfl
 have gr2 : W.cell? ⟨w.heap.size, 2, none⟩ = some (.int .u32 0) := by rw [hW_W, World.cell?_alloc_at _ _ _ _ (by simp)]; rfl
 have grf0 : W.frozen? ⟨w.heap.size, 0, none⟩ = false := by rw [hW_W, World.frozen?_alloc_at _ _ _ _ (by simp)]
 have grf1 : W.frozen? ⟨w.heap.size, 1, none⟩ = false := by rw [hW_W, World.frozen?_alloc_at _ _ _ _ (by simp)]
 have grf2 : W.frozen? ⟨w.heap.size, 2, none⟩ = false := by rw [hW_W, World.frozen?_alloc_at _ _ _ _ (by simp)]
 clear hW_W
 have hz_W := hX_W.size
 replace HH := Lib.hid (HH.out.kept hX_W (Nat.le_refl _))
 replace hb0 := hb0.trans (hX_W.mono hb0.size)
 clear hX_W
 go_wp2_with fail
 go_loopw [8] (fun i wr => ∃ j : Nat, i = .int .i64 j ∧ j ≤ a ∧ Below W.heap.size W wr) (fun i _ => a - (intOf i).toNat)
 case atStart => exact ⟨0, rfl, Nat.zero_le _, Below.refl _ _⟩
 case round =>
  obtain ⟨j, rfl, hj, hbr⟩ := hrel
  have HR := Lib.hid (HH.out.on hbr)
  have c0 := HR.out.c0
  have hl := HR.out.map.look j (by omega)
  by_cases hja : j < a
  ·rw [HU.out j hja] at hl
   generalize (f (j : Int)).getD blk0 = bk at hl
   simp only [blkV] at hl
   go_wp2_with fail
   exact ⟨⟨j + 1, by go_num, by omega, hbr.alloc hbr.size _⟩, by simp [intOf]; omega⟩
  ·obtain rfl : j = a := by omega
   rw [hfree] at hl
   simp only [Option.getD_none, Option.isSome_none, blkV, blk0] at hl
   have hgw : IntKind.u64.wrap ((gen : Int) + 1) = (gen : Int) + 1 := by rw [IntKind.wrap_u64]; omega
   go_upto_region 5 with (fail)
   obtain ⟨W5, hW5⟩ : ∃ W5, W5 = wr.alloc (.cells #[.int .u8 0, .string (S []), .int .u64 0] 86) := ⟨_, rfl⟩
   have hX5 : Below W.heap.size W W5 := by rw [hW5]; exact hbr.alloc hbr.size _
   have HR5 := Lib.hid (HH.out.on hX5)
   have hX6 := hb0.trans (hX5.mono hb0.size)
   have r0 := kept_cell hX5 gr0
   have r1 := kept_cell hX5 gr1
   have r2 := kept_cell hX5 gr2
   have rf0 := ((bcell hX5).2 w.heap.size 0 (World.block_lt_of_cell? W _ gr0)).trans grf0
   have rf1 := ((bcell hX5).2 w.heap.size 1 (World.block_lt_of_cell? W _ gr0)).trans grf1
   have rf2 := ((bcell hX5).2 w.heap.size 2 (World.block_lt_of_cell? W _ gr0)).trans grf2
   rw [← hW5]
   clear hW5 hl c0 HR gr0 gr1 gr2 grf0 grf1 grf2 hX5 hbr
   have c1 := HR5.out.c1
   have c1f := HR5.out.row.frozen 1
   have hsne := HR5.out.ne
   go_upto_region 6 with (fail)
   obtain ⟨W6, hW6⟩ : ∃ W6, W6 = W5.setCell ⟨sb, 1, none⟩ (.int .u64 ((gen : Int) + 1)) := ⟨_, rfl⟩
   have hrow6 : RowIs W6 27 sb [.map (some mb), .int .u64 ((gen : Int) + 1), .int .i64 wrong] := by rw [hW6]; exact HR5.out.row.put 1 _
   have HM6 := Lib.hid (show ShMap W6 mb n sz f from HR5.out.map.kept' (row := some sb) (by rw [hW6]; exact ⟨rfl, rfl, rfl, by rw [World.size_setCell]; exact Nat.le_refl _, fun i _ hi => Go.heap_setCell_other _ _ _ _ (fun e => hi (by rw [e]))⟩) (fun e => hsne (Option.some.inj e).symm))
   have hK6 : Keep (fun x => x = sb ∨ x = mb) w W6 := by rw [hW6]; exact (Keep.of_below (S := fun x => x = sb ∨ x = mb) hX6).setCell ⟨sb, 1, none⟩ (Or.inl (Or.inl rfl)) _
   have hwz := hX6.size
   have hsl := HR5.out.row.lt
   have rlt := World.block_lt_of_cell? W5 _ r0
   have hrs : w.heap.size ≠ sb := fun e => by
    have h1 := HR5.out.c0
    rw [← e, r0] at h1
    simp at h1
   have q0 : W6.cell? ⟨w.heap.size, 0, none⟩ = some (.int .i64 0) := by rw [hW6]; exact (World.cell?_setCell_other _ _ _ _ (addr_ne (Or.inl (fun e => hrs e.symm)))).trans r0
   have q1 : W6.cell? ⟨w.heap.size, 1, none⟩ = some (.int .u64 0) := by rw [hW6]; exact (World.cell?_setCell_other _ _ _ _ (addr_ne (Or.inl (fun e => hrs e.symm)))).trans r1
   have q2 : W6.cell? ⟨w.heap.size, 2, none⟩ = some (.int .u32 0) := by rw [hW6]; exact (World.cell?_setCell_other _ _ _ _ (addr_ne (Or.inl (fun e => hrs e.symm)))).trans r2
   have qf : ∀ o, W6.frozen? ⟨w.heap.size, o, none⟩ = W5.frozen? ⟨w.heap.size, o, none⟩ := fun o => by rw [hW6, World.frozen?_setCell]
   rw [← hW6]
   clear hW6 r0 r1 r2 HR5 c1 c1f hX6
   have c0 : W6.cell? ⟨sb, 0, none⟩ = some (.map (some mb)) := hrow6.cell 0
   have c1 : W6.cell? ⟨sb, 1, none⟩ = some (.int .u64 ((gen : Int) + 1)) := hrow6.cell 1
   have HPUT := Lib.hid ((HM6.out.on (below_drew' (Below.refl W6.heap.size W6))).put hn j (by omega) ⟨kd, pay, gen + 1⟩ (fun i => if i = (j : Int) then some ⟨kd, pay, gen + 1⟩ else f i) (by simp) (fun k hk => by simp [hk]))
   rw [hfree] at HPUT
   simp only [Option.isSome_none, Bool.false_eq_true, if_false] at HPUT
   rw [show blkV ⟨kd, pay, gen + 1⟩ = .agg #[.int .u8 kd, .string (S pay), .int .u64 ((gen : Int) + 1)] by simp [blkV]] at HPUT
   obtain ⟨wz, hrun, hmz, hgz⟩ := HPUT.out
   go_region
   all_goals
    have HMZ := Lib.hid hmz
    have hnz : some sb ≠ some mb := fun e => hsne (Option.some.inj e)
    have hrz : some w.heap.size ≠ some mb := fun e => by
     have e := Option.some.inj e
     obtain ⟨D, ⟨es, clock, hb, _⟩, _⟩ := HM6.out.own
     rw [← e] at hb
     simp [World.cell?, hb] at q0
    have hrowz := hrow6.drew.kept hgz hnz
    have hKz := (hK6.on (below_drew' (Below.refl _ _))).grown hgz (fun k e => Or.inl (Or.inr (Option.some.inj e).symm))
    have k0 := hgz.cell (cell_drew q0) hrz
    have k1 := hgz.cell (cell_drew q1) hrz
    have k2 := hgz.cell (cell_drew q2) hrz
    have hlt6 : w.heap.size < W6.drew.heap.size := World.block_lt_of_cell? W6.drew _ (cell_drew q0)
    have kf : ∀ o, wz.frozen? ⟨w.heap.size, o, none⟩ = W5.frozen? ⟨w.heap.size, o, none⟩ := fun o => (World.frozen?_of_block (hgz.block w.heap.size hlt6 hrz)).trans (qf o)
    have kf0 := (kf 0).trans rf0
    have kf1 := (kf 1).trans rf1
    have kf2 := (kf 2).trans rf2
    have z1 : wz.cell? ⟨sb, 1, none⟩ = some (.int .u64 ((gen : Int) + 1)) := hrowz.cell 1
    clear hmz hgz q0 q1 q2 qf kf HM6 HPUT c0 c1 hrow6 hK6
    go_wp2_with fail
    obtain ⟨s1, s2, s3, s4, s5⟩ := setL_spec (b := w.heap.size) [.int .i64 (j : Int), .int .u64 ((gen : Int) + 1), .int .u32 0] 0 wz (fun i hi => by
     rcases i with _ | _ | _ | i
     ·exact ⟨_, k0⟩
     ·exact ⟨_, k1⟩
     ·exact ⟨_, k2⟩
     ·simp at hi; omega)
    obtain ⟨ZZ, hZZ⟩ : ∃ ZZ, ZZ = ((wz.setCell ⟨w.heap.size, 0, none⟩ (.int .i64 (j : Int))).setCell ⟨w.heap.size, 1, none⟩ (.int .u64 ((gen : Int) + 1))).setCell ⟨w.heap.size, 2, none⟩ (.int .u32 0) := ⟨_, rfl⟩
    have hZ : setL wz w.heap.size 0 [.int .i64 (j : Int), .int .u64 ((gen : Int) + 1), .int .u32 0] = ZZ := by rw [hZZ]; rfl
    rw [hZ] at s1
    have t0 := s1 0 _ rfl
    have t1 := s1 1 _ rfl
    have t2 := s1 2 _ rfl
    simp only [Nat.zero_add] at t0 t1 t2
    have hgl : wz.grownBy ZZ (some w.heap.size) := by
     rw [hZZ]
     exact ⟨rfl, rfl, rfl, by simp only [World.size_setCell]; exact Nat.le_refl _, fun k _ hk => by
      have hkw : k ≠ w.heap.size := fun e => hk (by rw [e])
      rw [Go.heap_setCell_other _ _ _ _ hkw, Go.heap_setCell_other _ _ _ _ hkw, Go.heap_setCell_other _ _ _ _ hkw]⟩
    have hsz : ShelfAt ZZ sb mb (n + 1) (sz + 1) (fun i => if i = (j : Int) then some ⟨kd, pay, gen + 1⟩ else f i) (gen + 1) wrong :=
     ⟨hrowz.kept hgl (fun e => hrs (Option.some.inj e).symm), HMZ.out.kept' hgl (fun e => hrz (by rw [Option.some.inj e]))⟩
    have hKf : Keep (fun x => x = sb ∨ x = mb) w ZZ := hKz.grown hgl (fun k e => Or.inr (by have := Option.some.inj e; omega))
    rw [← hZZ]
    clear hZZ hZ s1 s2 s3 s4 s5 k0 k1 k2 kf0 kf1 kf2 hgl
    exact bodyPost_ret (v := .tuple #[.agg #[.int .i64 (j : Int), .int .u64 ((gen : Int) + 1), .int .u32 0], .int .i64 0]) (by simp [results, Tryz.results20, go_sem, t0, t1, t2]) rfl ⟨by simp, hsz, hKf⟩
end Go.Proofs.YtafciefjlkdecaaGreat
namespace Go.Proofs.YtafciefjlkdecaaGreat
open Go.RowKit
abbrev KdAt (w : World) (v : Value) (bs : List Nat) : Prop := w.ownsRow 0 97 1 v bs.length (bs.map vp)
def PtIs (k : Option Pt) (pa : Int) (pg ps : Nat) : Prop := ∀ p, k = some p → pa = p.a ∧ pg = p.g ∧ ps = p.s
structure MLeaf (w : World) (v : Vt) : Prop where
 ld : v.ld = true
 ex : ∃ pa pg ps a c, VxAt w v.b v.kn.isSome pa pg ps true (.slice a v.es.length c) (.slice none 0 0) (.slice none 0 0) (.slice none 0 0) ∧ PtIs v.kn pa pg ps ∧ BoxE w (.agg #[.slice a v.es.length c]) v.es
structure MFar (w : World) (v : Vt) : Prop where
 ld : v.ld = false
 ex : ∃ p, v.kn = some p ∧ Known w v.b ⟨[], p.a, p.g, p.s⟩
structure MNode (w : World) (v : Vt) : Prop where
 ld : v.ld = true
 ex : ∃ pa pg ps a1 c1 a2 c2 a3 c3, VxAt w v.b v.kn.isSome pa pg ps true (.slice none 0 0) (.slice a1 v.ch.length c1) (.slice a2 v.us.length c2) (.slice a3 v.ch.length c3) ∧ PtIs v.kn pa pg ps ∧ NodeAt w (.agg #[.slice a1 v.ch.length c1, .slice a2 v.us.length c2]) v.cs v.us ∧ KdAt w (.slice a3 v.ch.length c3) (v.ch.map fun x => x.2.b)
def Dsk : Nat → Vt → Prop
 | 0, v => v.mem = false ∧ v.ld = false ∧ v.kn.isSome = true
 | n + 1, v => (v.mem = false ∧ v.ld = false ∧ v.kn.isSome = true) ∧ ∀ x ∈ v.ch, Dsk n x.2
def Mem (w : World) : Nat → Vt → Prop
 | 0, v => v.mem = true ∧ (MLeaf w v ∨ MFar w v)
 | n + 1, v => v.mem = true ∧ ((MNode w v ∧ ∀ x ∈ v.ch, Mem w n x.2) ∨ (MFar w v ∧ ∀ x ∈ v.ch, Dsk n x.2))
def blocks : Nat → Vt → List Nat
 | 0, v => if v.mem then [v.b] else []
 | n + 1, v => if v.mem then v.b :: v.ch.flatMap (fun x => blocks n x.2) else []
theorem blocks_zero (v : Vt) (h : v.mem = true) : blocks 0 v = [v.b] := by rw [blocks, if_pos h]
theorem blocks_succ (n : Nat) (v : Vt) (h : v.mem = true) : blocks (n + 1) v = v.b :: v.ch.flatMap (fun x => blocks n x.2) := by rw [blocks, if_pos h]
theorem Mem.in {w : World} : ∀ {n : Nat} {v : Vt}, Mem w n v → v.mem = true
 | 0, _, h => h.1
 | _ + 1, _, h => h.1
theorem Dsk.out : ∀ {n : Nat} {v : Vt}, Dsk n v → v.mem = false ∧ v.ld = false ∧ v.kn.isSome = true
 | 0, _, h => h
 | _ + 1, _, h => h.1
theorem Dsk.blocks {n : Nat} {v : Vt} (h : Dsk n v) : blocks n v = [] := by
 cases n with
 | zero => rw [YtafciefjlkdecaaGreat.blocks, if_neg (by rw [h.out.1]; simp)]
 | succ n => rw [YtafciefjlkdecaaGreat.blocks, if_neg (by rw [h.out.1]; simp)]
theorem Mem.head {w : World} {n : Nat} {v : Vt} (h : Mem w n v) : v.b ∈ blocks n v := by
 cases n with
 | zero => rw [blocks_zero v h.in]; simp
 | succ n => rw [blocks_succ n v h.in]; simp
structure Soft (w : World) (b : Nat) : Prop where
 str : NoStr w b
 row : ∀ cur, ¬ RowIs w 97 b cur
theorem RowIs.one {w : World} {E E' : TypeId} {b : Nat} {cur cur' : List Value} (h : RowIs w E b cur) (h' : RowIs w E' b cur') : E = E' ∧ cur = cur' := by
 unfold RowIs at h h'
 rw [h] at h'
 simp only [Option.some.injEq, Obj.cells.injEq, and_true] at h'
 exact ⟨h'.2, by simpa using h'.1⟩
theorem Soft.of {w : World} {b : Nat} {E : TypeId} {cur : List Value} (h : RowIs w E b cur) (hs : ∀ s, Value.string s ∉ cur) (h1 : E ≠ 97) : Soft w b :=
 ⟨h.noStr hs, fun _ k => h1 (h.one k).1⟩
theorem VxAt.soft {w : World} {b : Nat} {kn : Bool} {pa : Int} {pg ps : Nat} {ld : Bool} {a1 a2 a3 a4 : Option Addr} {n1 n2 n3 n4 c1 c2 c3 c4 : Nat} (h : VxAt w b kn pa pg ps ld (.slice a1 n1 c1) (.slice a2 n2 c2) (.slice a3 n3 c3) (.slice a4 n4 c4)) : Soft w b :=
 Soft.of h.row (fun s => by simp [vxCells]) (by decide)
theorem TrAt.soft {w : World} {b : Nat} {F B L : Int} {fn : Fn} {xs ys : Array Value} {root : Nat} {h' : Int} {a : Option Addr} {n c : Nat} {fl le : Int} (h : TrAt w b F B L (.func fn xs ys) root h' (.slice a n c) fl le) : Soft w b :=
 Soft.of h.row (fun s => by simp [trCells]) (by decide)
theorem KdAt.keep {w w' : World} {v : Value} {bs : List Nat} {M : Nat → Prop} (h : KdAt w v bs) (hk : Keep M w w') (hM : ∀ b, M b → Soft w b) : KdAt w' v bs :=
 own_keep h hk fun g e hg => by
  obtain ⟨cur, hc⟩ := own_rowIs h g e
  exact (hM g hg).row cur hc
theorem MLeaf.vx {w : World} {v : Vt} (h : MLeaf w v) : Soft w v.b ∧ v.b < w.heap.size := by
 obtain ⟨pa, pg, ps, a, c, h1, -⟩ := h.ex
 exact ⟨h1.soft, h1.lt⟩
theorem MFar.vx {w : World} {v : Vt} (h : MFar w v) : Soft w v.b ∧ v.b < w.heap.size := by
 obtain ⟨p, -, h1⟩ := h.ex
 exact ⟨VxAt.soft h1, VxAt.lt h1⟩
theorem MNode.vx {w : World} {v : Vt} (h : MNode w v) : Soft w v.b ∧ v.b < w.heap.size := by
 obtain ⟨pa, pg, ps, a1, c1, a2, c2, a3, c3, h1, -⟩ := h.ex
 exact ⟨h1.soft, h1.lt⟩
theorem MLeaf.keep {w w' : World} {v : Vt} {M : Nat → Prop} (h : MLeaf w v) (hk : Keep M w w') (hM : ∀ b, M b → Soft w b) (hb : ¬ M v.b) : MLeaf w' v := by
 obtain ⟨hl, pa, pg, ps, a, c, h1, h2, h3⟩ := h
 exact ⟨hl, pa, pg, ps, a, c, hk.vx h1 hb, h2, h3.keep hk fun b hb => (hM b hb).str⟩
theorem MFar.keep {w w' : World} {v : Vt} {M : Nat → Prop} (h : MFar w v) (hk : Keep M w w') (hb : ¬ M v.b) : MFar w' v := by
 obtain ⟨hl, p, h1, h2⟩ := h
 exact ⟨hl, p, h1, hk.vx h2 hb⟩
theorem MNode.keep {w w' : World} {v : Vt} {M : Nat → Prop} (h : MNode w v) (hk : Keep M w w') (hM : ∀ b, M b → Soft w b) (hb : ¬ M v.b) : MNode w' v := by
 obtain ⟨hl, pa, pg, ps, a1, c1, a2, c2, a3, c3, h1, h2, h3, h4⟩ := h
 exact ⟨hl, pa, pg, ps, a1, c1, a2, c2, a3, c3, hk.vx h1 hb, h2, h3.keep hk (fun b hb => (hM b hb).str), KdAt.keep h4 hk hM⟩
theorem mem_flat {n : Nat} {v : Vt} (hm : v.mem = true) {x : Chd × Vt} (hx : x ∈ v.ch) {b : Nat} (hb : b ∈ blocks n x.2) : b ∈ blocks (n + 1) v := by
 rw [blocks_succ n v hm]
 exact List.mem_cons_of_mem _ (List.mem_flatMap.2 ⟨x, hx, hb⟩)
theorem Mem.keep {w w' : World} {M : Nat → Prop} (hk : Keep M w w') (hM : ∀ b, M b → Soft w b) : ∀ {n : Nat} {v : Vt}, Mem w n v → (∀ b ∈ blocks n v, ¬ M b) → Mem w' n v
 | 0, _, h, hb => ⟨h.1, h.2.imp (fun q => q.keep hk hM (hb _ h.head)) (fun q => q.keep hk (hb _ h.head))⟩
 | _ + 1, _, h, hb => ⟨h.1, h.2.imp (fun q => ⟨q.1.keep hk hM (hb _ h.head), fun x hx => Mem.keep hk hM (q.2 x hx) fun b hb' => hb b (mem_flat h.1 hx hb')⟩) (fun q => ⟨q.1.keep hk (hb _ h.head), q.2⟩)⟩
theorem Mem.on {w w' : World} {n : Nat} {v : Vt} (h : Mem w n v) (hb : Below w.heap.size w w') : Mem w' n v := h.keep (Keep.of_below (S := fun _ => False) hb) (fun _ q => q.elim) fun _ _ q => q
theorem Mem.lt {w : World} : ∀ {n : Nat} {v : Vt}, Mem w n v → ∀ b ∈ blocks n v, Soft w b ∧ b < w.heap.size
 | 0, v, h, b, hb => by
  rw [blocks_zero v h.1, List.mem_singleton] at hb
  subst hb
  exact h.2.elim (fun q => q.vx) (fun q => q.vx)
 | n + 1, v, h, b, hb => by
  rw [blocks_succ n v h.1, List.mem_cons] at hb
  rcases hb with rfl | hb
  ·exact h.2.elim (fun q => q.1.vx) (fun q => q.1.vx)
  ·obtain ⟨x, hx, hb⟩ := List.mem_flatMap.1 hb
   rcases h.2 with q | q
   ·exact Mem.lt (q.2 x hx) b hb
   ·rw [(q.2 x hx).blocks] at hb
    simp at hb
abbrev ldV (sb : Nat) : Value := .func (.func 11) #[.pointer (some ⟨sb, 0, none⟩)] #[]
abbrev gnRow (gone : List Int) : List Value := gone.map fun a => .int .i64 a
structure GnAt (w : World) (gv : Value) (gone : List Int) : Prop where
 own : w.ownsRow 0 3 1 gv gone.length (gnRow gone)
 int : ∀ g, gv.ownBlock = some g → ∀ cur, RowIs w 3 g cur → ∀ u ∈ cur, ∃ i, u = .int .i64 i
theorem GnAt.nil (w : World) : GnAt w (.slice none 0 0) [] := ⟨World.ownsRow_nil _ _ _ _, fun g e => by simp [Value.ownBlock] at e⟩
theorem GnAt.soft {w : World} {gv : Value} {gone : List Int} (h : GnAt w gv gone) : ∀ x, gv.ownBlock = some x → Soft w x ∧ x < w.heap.size := fun x hx => by
 obtain ⟨cur, hc⟩ := own_rowIs h.own x hx
 exact ⟨Soft.of hc (fun s hs => by obtain ⟨i, e⟩ := h.int x hx cur hc _ hs; cases e) (by decide), hc.lt⟩
theorem GnAt.keep {w w' : World} {gv : Value} {gone : List Int} {M : Nat → Prop} (h : GnAt w gv gone) (hk : Keep M w w') (hM : ∀ x, gv.ownBlock = some x → ¬ M x) : GnAt w' gv gone :=
 ⟨own_keep h.own hk fun g e => hM g e, fun g e cur hc => by
  refine h.int g e cur ?_
  have := (h.soft g e).2
  have h2 := hk.block g this (hM g e)
  exact h2.symm.trans hc⟩
theorem GnAt.on {w w' : World} {gv : Value} {gone : List Int} (h : GnAt w gv gone) (hb : Below w.heap.size w w') : GnAt w' gv gone := h.keep (Keep.of_below (S := fun _ => False) hb) fun _ _ q => q
theorem GnAt.form {w : World} {gv : Value} {gone : List Int} (h : GnAt w gv gone) : ∃ a x, gv = .slice a gone.length x := own_form h.own
structure Kx where
 tb : Nat
 sb : Nat
 mb : Nat
 F : Nat
 B : Nat
 L : Nat
 nn : Nat
 sz : Nat
 f : Int → Option Blk
 gen : Nat
structure Tx where
 gv : Value
 gone : List Int
 fl : Nat
 le : Nat
 wr : Nat
structure CAt (w : World) (K : Kx) (root h : Nat) (T : Tx) : Prop where
 tr : TrAt w K.tb K.F K.B K.L (ldV K.sb) root h T.gv T.fl T.le
 gn : GnAt w T.gv T.gone
 sh : ShelfAt w K.sb K.mb K.nn K.sz K.f K.gen T.wr
def Own (K : Kx) (T : Tx) (x : Nat) : Prop := x = K.tb ∨ x = K.sb ∨ T.gv.ownBlock = some x
theorem CAt.soft {w : World} {K : Kx} {root h : Nat} {T : Tx} (c : CAt w K root h T) : ∀ x, Own K T x → Soft w x ∧ x < w.heap.size := by
 obtain ⟨a, y, hg⟩ := c.gn.form
 intro x hx
 rcases hx with rfl | rfl | hx
 ·have := c.tr
  rw [hg] at this
  exact ⟨this.soft, c.tr.lt⟩
 ·exact ⟨Soft.of c.sh.row (fun s => by simp) (by decide), c.sh.row.lt⟩
 ·exact c.gn.soft x hx
theorem CAt.on {w w' : World} {K : Kx} {root h : Nat} {T : Tx} (c : CAt w K root h T) (hb : Below w.heap.size w w') : CAt w' K root h T := ⟨c.tr.on hb, c.gn.on hb, c.sh.on hb⟩
theorem ShMap.keep {w w' : World} {M : Nat → Prop} {b n sz : Nat} {f : Int → Option Blk} (h : ShMap w b n sz f) (hk : Keep M w w') (hb : ¬ M b) : ShMap w' b n sz f := by
 have hl := h.lt
 obtain ⟨D, ⟨es0, clock0, h1, h2⟩, h3⟩ := h
 exact ⟨D, ⟨es0, clock0, (hk.block b hl hb).trans h1, h2⟩, h3⟩
theorem ShelfAt.keep {w w' : World} {M : Nat → Prop} {sb mb n sz : Nat} {f : Int → Option Blk} {gen : Nat} {wr : Int} (h : ShelfAt w sb mb n sz f gen wr) (hk : Keep M w w') (h1 : ¬ M sb) (h2 : ¬ M mb) : ShelfAt w' sb mb n sz f gen wr := ⟨hk.row h.row h1, h.map.keep hk h2⟩
theorem ShelfAt.noMap {w : World} {sb mb n sz : Nat} {f : Int → Option Blk} {gen : Nat} {wr : Int} (h : ShelfAt w sb mb n sz f gen wr) {E : TypeId} {cur : List Value} : ¬ RowIs w E mb cur := fun hr => by
 obtain ⟨D, ⟨es, clock, hb, _⟩, _⟩ := h.map
 unfold RowIs at hr
 rw [hb] at hr
 simp at hr
theorem Mem.cells {w : World} : ∀ {n : Nat} {v : Vt}, Mem w n v → ∀ b ∈ blocks n v, ∃ cur, RowIs w 108 b cur
 | 0, v, h, b, hb => by
  rw [blocks_zero v h.1, List.mem_singleton] at hb
  subst hb
  rcases h.2 with q | q
  ·obtain ⟨pa, pg, ps, a, c, h1, -⟩ := q.ex
   exact ⟨_, h1.row⟩
  ·obtain ⟨p, -, h1⟩ := q.ex
   exact ⟨_, VxAt.row h1⟩
 | n + 1, v, h, b, hb => by
  rw [blocks_succ n v h.1, List.mem_cons] at hb
  rcases hb with rfl | hb
  ·rcases h.2 with q | q
   ·obtain ⟨pa, pg, ps, a1, c1, a2, c2, a3, c3, h1, -⟩ := q.1.ex
    exact ⟨_, h1.row⟩
   ·obtain ⟨p, -, h1⟩ := q.1.ex
    exact ⟨_, VxAt.row h1⟩
  ·obtain ⟨x, hx, hb⟩ := List.mem_flatMap.1 hb
   rcases h.2 with q | q
   ·exact Mem.cells (q.2 x hx) b hb
   ·rw [(q.2 x hx).blocks] at hb
    simp at hb
theorem CAt.notVx {w : World} {K : Kx} {root h : Nat} {T : Tx} (c : CAt w K root h T) {x : Nat} {cur : List Value} (hx : RowIs w 108 x cur) : ¬ Own K T x ∧ x ≠ K.mb := by
 refine ⟨fun ho => ?_, fun e => c.sh.noMap (e ▸ hx)⟩
 rcases ho with rfl | rfl | ho
 ·exact absurd (hx.one c.tr.row).1 (by decide)
 ·exact absurd (hx.one c.sh.row).1 (by decide)
 ·obtain ⟨cur', hc⟩ := own_rowIs c.gn.own x ho
  exact absurd (hx.one hc).1 (by decide)
theorem CAt.keep {w w' : World} {K : Kx} {root h : Nat} {T : Tx} {M : Nat → Prop} (c : CAt w K root h T) (hk : Keep M w w') (hM : ∀ x, M x → (∃ cur, RowIs w 108 x cur) ∨ w.heap.size ≤ x) : CAt w' K root h T := by
 have hn : ∀ x, x < w.heap.size → (Own K T x ∨ x = K.mb) → ¬ M x := fun x hl hx hm => by
  rcases hM x hm with ⟨cur, hc⟩ | hg
  ·exact hx.elim (c.notVx hc).1 (c.notVx hc).2
  ·omega
 exact ⟨⟨hk.row c.tr.row (hn _ c.tr.lt (Or.inl (Or.inl rfl)))⟩, c.gn.keep hk fun x e => hn x (c.gn.soft x e).2 (Or.inl (Or.inr (Or.inr e))), c.sh.keep hk (hn _ c.sh.row.lt (Or.inl (Or.inr (Or.inl rfl)))) (hn _ c.sh.map.lt (Or.inr rfl))⟩
open Go.RowKit
attribute [local go_sem ↓] Go.wp_at_zero Go.wp_at_succ
theorem ShelfAt.count {w : World} {sb mb n sz : Nat} {f : Int → Option Blk} {gen : Nat} {wr wr' : Int} (h : ShelfAt w sb mb n sz f gen wr) : ShelfAt (w.setCell ⟨sb, 2, none⟩ (.int .i64 wr')) sb mb n sz f gen wr' :=
 ⟨h.row.put 2 _, h.map.keep ((Keep.refl (fun x => x = sb) w).setCell ⟨sb, 2, none⟩ (Or.inl rfl) _) (fun e => h.ne e.symm)⟩
theorem load_no {sb mb n sz : Nat} {f : Int → Option Blk} {gen : Nat} (a : Int) (g s : Nat) (w : World) (h : ShelfAt w sb mb n sz f gen 1) :
  Calls Tryz.prog 11 #[.pointer (some ⟨sb, 0, none⟩), .agg #[.int .i64 a, .int .u64 g, .int .u32 s]] w fun e w' => e = .returned (.tuple #[.int .u8 0, .string ⟨#[]⟩, .int .i64 10]) ∧ ShelfAt w' sb mb n sz f gen 0 ∧ Keep (fun x => x = sb) w w' := by
 have HH := Lib.hid h
 have hb0 := Below.refl w.heap.size w
 clear h
 go_enter Tryz.func11, Tryz.ntmps11
 go_upto_region 1 with (fail)
 obtain ⟨W, hW_W⟩ : ∃ W, W = (w.alloc (.cells #[.int .i64 a, .int .u64 g, .int .u32 s] 54)) := ⟨_, rfl⟩
 rw [← hW_W]
 have hX_W : Below w.heap.size w W := by rw [hW_W]; go_grown
 have gp0 : W.cell? ⟨w.heap.size, 0, none⟩ = some (.int .i64 a) := by rw [hW_W, World.cell?_alloc_at _ _ _ _ (by simp)]; rfl
 have gp1 : W.cell? ⟨w.heap.size, 1, none⟩ = some (.int .u64 g) := by rw [hW_W, World.cell?_alloc_at _ _ _ _ (by simp)]; rfl
 have gp2 : W.cell? ⟨w.heap.size, 2, none⟩ = some (.int .u32 s) := by rw [hW_W, World.cell?_alloc_at _ _ _ _ (by simp)]; rfl
 clear hW_W
 have hz_W := hX_W.size
 replace HH := Lib.hid (HH.out.kept hX_W (Nat.le_refl _))
 replace hb0 := hb0.trans (hX_W.mono hb0.size)
 clear hX_W
 have c2 := HH.out.c2
 have f2 := HH.out.row.frozen 2
 have HC := Lib.hid (HH.out.count (wr' := 0))
 have hK := Keep.of_below (S := fun x => x = sb) hb0
 go_wp2_with fail
 go_returns
 exact ⟨rfl, HC.out, hK.setCell ⟨sb, 2, none⟩ (Or.inl rfl) _⟩
theorem load_later {sb mb n sz : Nat} {f : Int → Option Blk} {gen : Nat} (wr : Nat) (hwr : 2 ≤ wr) (hwr2 : wr ≤ 1000) (a : Nat) (ps : Nat) (b : Blk) (w : World) (h : ShelfAt w sb mb n sz f gen wr) (ha : a < 1000000) (hf : f (a : Int) = some b) :
  Calls Tryz.prog 11 #[.pointer (some ⟨sb, 0, none⟩), .agg #[.int .i64 a, .int .u64 b.gen, .int .u32 ps]] w fun e w' => e = .returned (.tuple #[.int .u8 b.kind, .string (S b.pay), .int .i64 0]) ∧ ShelfAt w' sb mb n sz f gen ((wr - 1 : Nat) : Int) ∧ Keep (fun x => x = sb) w w' := by
 have HH := Lib.hid h
 have hb0 := Below.refl w.heap.size w
 clear h
 obtain ⟨k, hk⟩ : ∃ k, wr = k + 1 := ⟨wr - 1, by omega⟩
 have hw1 : 0 < wr := by omega
 have hw2 : IntKind.i64.wrap ((wr : Int) - 1) = (k : Int) := by rw [show (wr : Int) - 1 = (k : Int) by omega]; exact IntWalk.i64_in _ (by omega)
 have hw3 : ((k : Int) == 0) = false := by simp; omega
 rw [show wr - 1 = k by omega]
 clear hwr hwr2 hk
 go_enter Tryz.func11, Tryz.ntmps11
 go_upto_region 1 with (fail)
 obtain ⟨W, hW_W⟩ : ∃ W, W = (w.alloc (.cells #[.int .i64 a, .int .u64 b.gen, .int .u32 ps] 54)) := ⟨_, rfl⟩
 rw [← hW_W]
 have hX_W : Below w.heap.size w W := by rw [hW_W]; go_grown
 have gp0 : W.cell? ⟨w.heap.size, 0, none⟩ = some (.int .i64 a) := by rw [hW_W, World.cell?_alloc_at _ _ _ _ (by simp)]; rfl
 have gp1 : W.cell? ⟨w.heap.size, 1, none⟩ = some (.int .u64 b.gen) := by rw [hW_W, World.cell?_alloc_at _ _ _ _ (by simp)]; rfl
 have gp2 : W.cell? ⟨w.heap.size, 2, none⟩ = some (.int .u32 ps) := by rw [hW_W, World.cell?_alloc_at _ _ _ _ (by simp)]; rfl
 clear hW_W
 have hz_W := hX_W.size
 replace HH := Lib.hid (HH.out.kept hX_W (Nat.le_refl _))
 replace hb0 := hb0.trans (hX_W.mono hb0.size)
 clear hX_W
 have hgl := World.block_lt_of_cell? W _ gp0
 have hne : sb ≠ w.heap.size := fun e => by
  have h1 := HH.out.c0
  rw [e, gp0] at h1
  simp at h1
 have c2 := HH.out.c2
 have f2 := HH.out.row.frozen 2
 go_upto_if 13 with (fail)
 go_cut [] from 9 to 25 (fun wx => wx = W.setCell ⟨sb, 2, none⟩ (.int .i64 (k : Int)))
 case first =>
  go_wp2_with fail
  go_meet
  rfl
 case rest =>
 obtain ⟨W2, hW2⟩ : ∃ W2, W2 = W.setCell ⟨sb, 2, none⟩ (.int .i64 (k : Int)) := ⟨_, rfl⟩
 rw [hcut, ← hW2]
 clear hcut
 have HH2 := Lib.hid (show ShelfAt W2 sb mb n sz f gen (k : Int) by rw [hW2]; exact HH.out.count)
 have gq0 : W2.cell? ⟨w.heap.size, 0, none⟩ = some (.int .i64 a) := by rw [hW2]; exact far_block hne.symm gp0
 have gq1 : W2.cell? ⟨w.heap.size, 1, none⟩ = some (.int .u64 b.gen) := by rw [hW2]; exact far_block hne.symm gp1
 have hK := (Keep.of_below (S := fun x => x = sb) hb0).setCell ⟨sb, 2, none⟩ (Or.inl rfl) (.int .i64 (k : Int))
 rw [← hW2] at hK
 clear hW2 gp0 gp1 gp2 c2 f2 HH hb0
 have c0 := HH2.out.c0
 have c2 := HH2.out.c2
 go_upto_region 5 with (fail)
 have hl := HH2.out.map.look a (by omega)
 rw [hf] at hl
 simp only [Option.getD_some, Option.isSome_some, blkV] at hl
 have hl2 := (HH2.out.on (below_drew' (Below.refl W2.heap.size W2))).map.look a (by omega)
 rw [hf] at hl2
 simp only [Option.getD_some, Option.isSome_some, blkV] at hl2
 have hX1 : Below W2.heap.size W2 (W2.alloc (.cells #[.int .u8 0, .string ⟨#[]⟩, .int .u64 0] 86)).drew := below_drew' ((Below.refl _ _).alloc (Nat.le_refl _) _)
 have hl3 := (HH2.out.on hX1).map.look a (by omega)
 rw [hf] at hl3
 simp only [Option.getD_some, Option.isSome_some, blkV] at hl3
 have hgl2 := World.block_lt_of_cell? W2 _ gq0
 have e0 : ∀ x, (W2.alloc x).cell? ⟨sb, 0, none⟩ = some (.map (some mb)) := fun x => (World.cell?_alloc_past _ _ _ HH2.out.row.lt).trans c0
 have e1 : ∀ x, (W2.alloc x).cell? ⟨w.heap.size, 0, none⟩ = some (.int .i64 a) := fun x => (World.cell?_alloc_past _ _ _ hgl2).trans gq0
 have e2 : ∀ x, (W2.alloc x).cell? ⟨w.heap.size, 1, none⟩ = some (.int .u64 b.gen) := fun x => (World.cell?_alloc_past _ _ _ hgl2).trans gq1
 go_region
 all_goals
  have hXz : Below W2.heap.size W2 (W2.alloc (.cells #[.int .u8 b.kind, .string (S b.pay), .int .u64 b.gen] 86)).drew.drew := below_drew' (below_drew' ((Below.refl _ _).alloc (Nat.le_refl _) _))
  go_upto_region 8 with (fail)
  go_region
  all_goals
   go_wp2_with fail
   go_returns
   exact ⟨rfl, HH2.out.on hXz, hK.on hXz⟩
theorem load_any {sb mb n sz : Nat} {f : Int → Option Blk} {gen wr : Nat} (p : Pt) (b : Blk) (w : World) (h : ShelfAt w sb mb n sz f gen wr) (hwr : wr ≤ 1000) (ha : 0 ≤ p.a ∧ p.a < 1000000) (hf : f p.a = some b) (hg : b.gen = p.g) :
  Calls Tryz.prog 11 #[.pointer (some ⟨sb, 0, none⟩), .agg #[.int .i64 p.a, .int .u64 p.g, .int .u32 p.s]] w fun e w' => ((wr = 1 ∧ e = .returned (.tuple #[.int .u8 0, .string ⟨#[]⟩, .int .i64 10])) ∨ (wr ≠ 1 ∧ e = .returned (.tuple #[.int .u8 b.kind, .string (S b.pay), .int .i64 0]))) ∧ ShelfAt w' sb mb n sz f gen ((wr - 1 : Nat) : Int) ∧ Keep (fun x => x = sb) w w' := by
 obtain ⟨k, hk⟩ : ∃ k : Nat, p.a = (k : Int) := ⟨p.a.toNat, by omega⟩
 rw [hk] at hf ⊢
 rw [← hg]
 by_cases h0 : wr = 0
 ·subst h0
  refine (load_yes k p.s b w h (by omega) hf).mono ?_
  rintro e w' ⟨rfl, hb⟩
  exact ⟨Or.inr ⟨by omega, rfl⟩, h.on hb, Keep.of_below hb⟩
 ·by_cases h1 : wr = 1
  ·subst h1
   refine (load_no _ _ _ w h).mono ?_
   rintro e w' ⟨rfl, hs, hk⟩
   exact ⟨Or.inl ⟨rfl, rfl⟩, hs, hk⟩
  ·refine (load_later wr (by omega) hwr k p.s b w h (by omega) hf).mono ?_
   rintro e w' ⟨rfl, hs, hk⟩
   exact ⟨Or.inr ⟨h1, rfl⟩, hs, hk⟩
open Go.RowKit
attribute [local go_sem ↓] Go.wp_at_zero Go.wp_at_succ
structure LoadR (fid : FuncId) (xs ys : Array Value) (pa : Int) (pg ps : Nat) (k : Nat) (pay : List UInt8) (er : Int) (w : World) (R : World → Prop) : Prop where
 ent : ∀ args w, (callFunc fid args).run Tryz.prog w = .ok (.enter fid args) w
 go : ∀ w1, Below w.heap.size w w1 → Calls Tryz.prog fid (xs ++ #[.agg #[.int .i64 pa, .int .u64 pg, .int .u32 ps]] ++ ys) w1 fun e w2 => e = .returned (.tuple #[.int .u8 k, .string (S pay), .int .i64 er]) ∧ R w2
theorem fetchR_bad {tb b : Nat} {F B L : Int} {fid : FuncId} {xs ys : Array Value} {root : Nat} {h' : Int} {gone : Value} {fl le : Int} {kn : Bool} {pa : Int} {pg ps : Nat} {lf cs us ks : Value} (k : Nat) (pay : List UInt8) (er : Int) (h : Int) (w : World)
  (ht : TrAt w tb F B L (.func (.func fid) xs ys) root h' gone fl le) (hv : VxAt w b kn pa pg ps false lf cs us ks) (R : World → Prop) (hl : LoadR fid xs ys pa pg ps k pay er w R) (he : er ≠ 0) :
  Calls Tryz.prog 50 #[.pointer (some ⟨tb, 0, none⟩), .pointer (some ⟨b, 0, none⟩), .int .i64 h] w fun e w' => e = .returned (.tuple #[.pointer none, .bool false, .int .i64 er]) ∧ R w' := by
 have c4 := hv.c4
 have c1 := hv.c1
 have c2 := hv.c2
 have c3 := hv.c3
 have t3 := ht.c3
 have hent := hl.ent
 go_enter Tryz.func50, Tryz.ntmps50
 go_upto_region 3 with (fail)
 go_region_law (first | (go_simp; go_at_fn fid; refine (hl.go _ (below_drew' (Below.refl _ _))).mono ?_; rintro e w2 ⟨rfl, hR2⟩))
 all_goals
  have he' : (er != 0) = true := by simpa using he
  go_wp2_with fail
  go_returns
  exact ⟨rfl, hR2⟩
theorem fetchR_leaf {tb b : Nat} {F B L : Int} {fid : FuncId} {xs ys : Array Value} {root : Nat} {h' : Int} {gone : Value} {fl le : Int} {kn : Bool} {pa : Int} {pg ps : Nat} {lf cs us ks : Value} (k : Nat) (pay : List UInt8) (h : Int) (w : World)
  (ht : TrAt w tb F B L (.func (.func fid) xs ys) root h' gone fl le) (hv : VxAt w b kn pa pg ps false lf cs us ks) (R : World → Prop) (hRv : ∀ w2, R w2 → VxAt w2 b kn pa pg ps false lf cs us ks) (hl : LoadR fid xs ys pa pg ps k pay 0 w R) (hk : k = 4) (hh : h = 1) (hp : pay.length ≤ 100000) (n : Nat) (es : List Ent) (hpe : parseE pay = (es, n)) :
  Calls Tryz.prog 50 #[.pointer (some ⟨tb, 0, none⟩), .pointer (some ⟨b, 0, none⟩), .int .i64 h] w fun e w' => ∃ w2, R w2 ∧ ((n = 0 ∧ ∃ b' a c, e = .returned (.tuple #[.pointer (some ⟨b', 0, none⟩), .bool true, .int .i64 0]) ∧ w2.heap.size ≤ b' ∧ VxAt w' b' true pa pg ps true (.slice a es.length c) (.slice none 0 0) (.slice none 0 0) (.slice none 0 0) ∧ BoxE w' (.agg #[.slice a es.length c]) es) ∨ (n ≠ 0 ∧ e = .returned (.tuple #[.pointer none, .bool false, .int .i64 10]))) ∧ Below w2.heap.size w2 w' := by
 subst hk hh
 have HP := Lib.hid (fun w' => leafParse_any pay (by omega) w')
 rw [hpe] at HP
 clear hpe
 have c4 := hv.c4
 have c1 := hv.c1
 have c2 := hv.c2
 have c3 := hv.c3
 have t3 := ht.c3
 have hent := hl.ent
 go_enter Tryz.func50, Tryz.ntmps50
 go_upto_region 3 with (fail)
 go_cut [9, 10, 11] (fun s9 s10 s11 wx => s9 = .int .u8 (4 : Nat) ∧ s10 = .string (S pay) ∧ s11 = .int .i64 0 ∧ R wx)
 case first =>
  go_region_law (first | (go_simp; go_at_fn fid; refine (hl.go _ (below_drew' (Below.refl _ _))).mono ?_; rintro e w2 ⟨rfl, hR2⟩))
  all_goals
   go_wp2_with fail
   go_meet
   exact ⟨rfl, rfl, rfl, hR2⟩
 case rest =>
 obtain ⟨rfl, rfl, rfl, hR2⟩ := hcut
 obtain ⟨w2, hw2⟩ : ∃ w2, w2 = wc := ⟨_, rfl⟩
 subst hw2
 have hv2 := hRv w2 hR2
 replace c1 := hv2.c1
 replace c2 := hv2.c2
 replace c3 := hv2.c3
 have HR := Lib.hid hR2
 have hX2 := Below.refl w2.heap.size w2
 have hz : w2.heap.size ≤ w2.heap.size := Nat.le_refl _
 clear hR2 hv2
 have HX2 := Lib.hid hX2
 clear hX2 hl
 go_upto_region 8 with (fail)
 obtain ⟨W, hW⟩ : ∃ W, W = w2.alloc (.cells (vxCells true pa pg ps true (.slice none 0 0) (.slice none 0 0) (.slice none 0 0) (.slice none 0 0)).toArray 108) := ⟨_, rfl⟩
 have hV : VxAt W w2.heap.size true pa pg ps true (.slice none 0 0) (.slice none 0 0) (.slice none 0 0) (.slice none 0 0) := ⟨by rw [hW]; exact RowIs.new _ _ _⟩
 have hX3 : Below w2.heap.size w2 W := by rw [hW]; exact HX2.out.alloc hz _
 have e0 : w2.alloc (.cells #[.bool true, .int .i64 pa, .int .u64 pg, .int .u32 ps, .bool true, .slice none 0 0, .slice none 0 0, .slice none 0 0, .slice none 0 0] 108) = W := hW.symm
 rw [e0]
 clear e0 hW HX2 c1 c2 c3
 go_wp2_with fail
 refine (thread (HP.out W) W.heap.size W (Below.refl _ _) (Nat.le_refl _)).mono ?_
 rintro e w4 ⟨⟨a, c, rfl, hown⟩, hX4, -, -, -, hz4⟩
 dsimp only at hown ⊢
 have hV4 := hV.on hX4
 have v5 := hV4.c5
 have vf := hV4.fz 5
 have hB4 := Lib.hid (BoxE.of_own hown)
 have hLB := Lib.hid (hX3.trans (hX4.mono hX3.size))
 have hzw := hLB.out.size
 by_cases hn : n = 0
 ·have hn' : ((n : Int) != 0) = false := by simp; omega
  go_wp2_with fail
  go_returns
  refine ⟨w2, HR.out, Or.inl ⟨hn, _, a, c, rfl, hz, hV4.putL _, hB4.out.setAt v5 _⟩, hLB.out.setCell (p := ⟨w2.heap.size, 5, none⟩) hz _⟩
 ·have hn' : ((n : Int) != 0) = true := by simp; omega
  go_wp2_with fail
  go_returns
  exact ⟨w2, HR.out, Or.inr ⟨hn, rfl⟩, hLB.out.setCell (p := ⟨w2.heap.size, 5, none⟩) hz _⟩
structure KidsNd (w : World) (ks : List Nat) : Prop where
 nd : ks.Nodup
 lt : ∀ b ∈ ks, b < w.heap.size
theorem KidsNd.on {w w' : World} {ks : List Nat} (h : KidsNd w ks) (hs : w.heap.size ≤ w'.heap.size) : KidsNd w' ks := ⟨h.nd, fun b hb => Nat.lt_of_lt_of_le (h.lt b hb) hs⟩
theorem KidsNd.more {w w' : World} {ks : List Nat} (h : KidsNd w ks) {b : Nat} (h1 : w.heap.size ≤ b) (h2 : b < w'.heap.size) : KidsNd w' (ks ++ [b]) :=
 ⟨List.nodup_append.2 ⟨h.nd, by simp, fun x hx y hy e => by rw [List.mem_singleton] at hy; have := h.lt x hx; omega⟩, fun x hx => by
  rcases List.mem_append.1 hx with hx | hx
  ·have := h.lt x hx; omega
  ·rw [List.mem_singleton] at hx; omega⟩
theorem fetchR_node {tb b : Nat} {F B L : Int} {fid : FuncId} {xs ys : Array Value} {root : Nat} {h' : Int} {gone : Value} {fl le : Int} {kn : Bool} {pa : Int} {pg ps : Nat} {lf cs us ks : Value} (k : Nat) (pay : List UInt8) (h : Int) (w : World)
  (ht : TrAt w tb F B L (.func (.func fid) xs ys) root h' gone fl le) (hv : VxAt w b kn pa pg ps false lf cs us ks) (R : World → Prop) (hRv : ∀ w2, R w2 → VxAt w2 b kn pa pg ps false lf cs us ks) (hl : LoadR fid xs ys pa pg ps k pay 0 w R) (hk : k = 5) (hh : 1 < h) (hp : pay.length ≤ 10000) :
  Calls Tryz.prog 50 #[.pointer (some ⟨tb, 0, none⟩), .pointer (some ⟨b, 0, none⟩), .int .i64 h] w fun e w' => ∃ w2, R w2 ∧ ((∃ N ob cs us ks a1 c1 a2 c2 a3 c3, w2.heap.size ≤ N ∧ NodeGot w2 N pay pa pg ps e w' ob cs us ks a1 c1 a2 c2 a3 c3 ∧ ks.Nodup ∧ ob < N) ∨ ((∀ cs us, NodeOk cs us → pay ≠ textN cs us) ∧ e = .returned (.tuple #[.pointer none, .bool false, .int .i64 10]))) ∧ Below w2.heap.size w2 w' := by
 subst hk
 have HP := Lib.hid (fun w' => nodeParse_any pay w' hp)
 have hh1 : (h == 1) = false := by simp; omega
 have hh2 : decide (1 < h) = true := by simpa using hh
 obtain ⟨i0, hi, iz0, iz1, iz2⟩ := info_parts infoVx
 have c4 := hv.c4
 have c1 := hv.c1
 have c2 := hv.c2
 have c3 := hv.c3
 have t3 := ht.c3
 have hent := hl.ent
 go_enter Tryz.func50, Tryz.ntmps50
 go_upto_region 3 with (fail)
 go_cut [9, 10, 11] (fun s9 s10 s11 wx => s9 = .int .u8 (5 : Nat) ∧ s10 = .string (S pay) ∧ s11 = .int .i64 0 ∧ R wx)
 case first =>
  go_region_law (first | (go_simp; go_at_fn fid; refine (hl.go _ (below_drew' (Below.refl _ _))).mono ?_; rintro e w2 ⟨rfl, hR2⟩))
  all_goals
   go_wp2_with fail
   go_meet
   exact ⟨rfl, rfl, rfl, hR2⟩
 case rest =>
 obtain ⟨rfl, rfl, rfl, hR2⟩ := hcut
 obtain ⟨w2, hw2⟩ : ∃ w2, w2 = wc := ⟨_, rfl⟩
 subst hw2
 have hv2 := hRv w2 hR2
 replace c1 := hv2.c1
 replace c2 := hv2.c2
 replace c3 := hv2.c3
 have HR := Lib.hid hR2
 have hX2 := Below.refl w2.heap.size w2
 have hz : w2.heap.size ≤ w2.heap.size := Nat.le_refl _
 clear hR2 hv2
 have HX2 := Lib.hid hX2
 clear hX2 hl
 go_upto_region 8 with (fail)
 obtain ⟨W, hW⟩ : ∃ W, W = w2.alloc (.cells (vxCells true pa pg ps true (.slice none 0 0) (.slice none 0 0) (.slice none 0 0) (.slice none 0 0)).toArray 108) := ⟨_, rfl⟩
 have hV : VxAt W w2.heap.size true pa pg ps true (.slice none 0 0) (.slice none 0 0) (.slice none 0 0) (.slice none 0 0) := ⟨by rw [hW]; exact RowIs.new _ _ _⟩
 have hX3 : Below w2.heap.size w2 W := by rw [hW]; exact HX2.out.alloc hz _
 have e0 : w2.alloc (.cells #[.bool true, .int .i64 pa, .int .u64 pg, .int .u32 ps, .bool true, .slice none 0 0, .slice none 0 0, .slice none 0 0, .slice none 0 0] 108) = W := hW.symm
 rw [e0]
 clear e0 hW HX2 c1 c2 c3
 go_wp2_with fail
 refine (thread (HP.out W) W.heap.size W (Below.refl _ _) (Nat.le_refl _)).mono ?_
 rintro e w4 ⟨hres, hX4, -, -, -, hz4⟩
 have hV4 := hV.on hX4
 have hLB := Lib.hid (hX3.trans (hX4.mono hX3.size))
 have hzw := hLB.out.size
 have hob := hV4.lt
 have v6 := hV4.c6
 have v7 := hV4.c7
 have f6 := hV4.fz 6
 have f7 := hV4.fz 7
 rcases hres with ⟨cs, us, v, h1, h2, rfl, h4, h5⟩ | ⟨hno, rfl⟩
 ·obtain ⟨a1, a2, x1, x2, rfl, hsc, hsu⟩ := h4
  obtain ⟨a1', y1, a2', y2, ev, hrc, hru⟩ := h5
  simp only [Value.agg.injEq, Array.mk.injEq, List.cons.injEq, Value.slice.injEq, and_true, true_and] at ev
  obtain ⟨⟨rfl, rfl⟩, rfl, rfl⟩ := ev
  have HRC := Lib.hid hrc
  have HRU := Lib.hid hru
  have hWob : w2.heap.size < W.heap.size := hV.lt
  clear hrc hru
  have HN4 := Lib.hid (show NodeAt w4 (.agg #[.slice a1 cs.length x1, .slice a2 us.length x2]) cs us from ⟨a1, a2, x1, x2, rfl, hsc, hsu⟩)
  have HTX := Lib.hid h1
  have HOK := Lib.hid h2
  clear hsc hsu h1 h2
  go_upto_region 12 with (fail)
  obtain ⟨w5, hw5⟩ : ∃ w5, w5 = (w4.setCell ⟨w2.heap.size, 6, none⟩ (.slice a1 cs.length x1)).setCell ⟨w2.heap.size, 7, none⟩ (.slice a2 us.length x2) := ⟨_, rfl⟩
  have hV5 : VxAt w5 w2.heap.size true pa pg ps true (.slice none 0 0) (.slice a1 cs.length x1) (.slice a2 us.length x2) (.slice none 0 0) := by rw [hw5]; exact hV4.putN _ _
  have HN5 := Lib.hid (show NodeAt w5 (.agg #[.slice a1 cs.length x1, .slice a2 us.length x2]) cs us by
   rw [hw5]
   exact (HN4.out.setAt v6 _).setAt (p := ⟨w2.heap.size, 7, none⟩) ((World.cell?_setCell_other _ _ _ _ (addr_ne (Or.inr (by decide)))).trans v7) _)
  have hL5 : Below w2.heap.size w2 w5 := by rw [hw5]; exact (hLB.out.setCell (p := ⟨w2.heap.size, 6, none⟩) hz _).setCell (p := ⟨w2.heap.size, 7, none⟩) hz _
  have HRC5 := Lib.hid (show w5.ownsRow W.heap.size 179 4 (.slice a1 cs.length x1) cs.length (cellsC cs) by
   rw [hw5]
   exact ownsRow_setCell_other (a := ⟨w2.heap.size, 7, none⟩) (ownsRow_setCell_other (a := ⟨w2.heap.size, 6, none⟩) HRC.out (fun e => by have := (HRC.out.lt w2.heap.size e).1; omega) _) (fun e => by have := (HRC.out.lt w2.heap.size e).1; omega) _)
  have HRU5 := Lib.hid (show w5.ownsRow W.heap.size 39 4 (.slice a2 us.length x2) us.length (cellsU us) by
   rw [hw5]
   exact ownsRow_setCell_other (a := ⟨w2.heap.size, 7, none⟩) (ownsRow_setCell_other (a := ⟨w2.heap.size, 6, none⟩) HRU.out (fun e => by have := (HRU.out.lt w2.heap.size e).1; omega) _) (fun e => by have := (HRU.out.lt w2.heap.size e).1; omega) _)
  have HWW := Lib.hid (show w2.heap.size ≤ W.heap.size by omega)
  have HWO := Lib.hid hWob
  rw [← hw5]
  clear hw5 v6 v7 f6 f7 hLB hzw hX3 hX4 hV hz4 HN4 HRC HRU hWob
  have hob5 := hV5.lt
  have v6 := hV5.c6
  go_wp2_with fail
  go_loopw [78] (fun i wr => ∃ (j : Nat) (ks : List Nat) (a3 : Option Addr) (c3 : Nat), i = .int .i64 j ∧ j ≤ cs.length ∧ Hid (KidsTo w5 w2.heap.size pa pg ps a1 x1 (.slice a2 us.length x2) cs ks a3 c3 j wr ∧ KidsNd wr ks)) (fun i _ => cs.length - (intOf i).toNat)
  case atStart => exact ⟨0, [], none, 0, rfl, Nat.zero_le _, Lib.hid ⟨⟨Keep.refl _ _, hV5, World.ownsRow_nil _ _ _ _, rfl, fun i c _ h => absurd h (Nat.not_lt_zero _)⟩, by simp, fun b hb => by simp at hb⟩⟩
  case round =>
   obtain ⟨j, ks, a3, c3, rfl, hj, HK⟩ := hrel
   have hj0 : (0 : Int) ≤ (j : Int) := Int.natCast_nonneg _
   by_cases hjl : j < cs.length
   ·have hj1 : (j : Int) < (cs.length : Int) := by omega
    obtain ⟨b0, off, ea, hb, t0, t1, t2, t3⟩ := (SlC.at ((HN5.out.keep HK.out.1.keep (fun x hx => by subst hx; exact hV5.noStr)).parts.1)).cells4C j hjl
    subst ea
    have HCJ := Lib.hid (List.getElem?_eq_getElem hjl)
    have hlc : cs.length ≤ 16 := HOK.out.kids.len.2
    generalize cs[j] = ch at *
    obtain ⟨low, ad, ge, su⟩ := ch
    dsimp only at t0 t1 t2 t3
    go_upto_region 15 with (fail)
    obtain ⟨W1, hW1⟩ : ∃ W1, W1 = wr.alloc (.cells #[.string (S low), .int .i64 ad, .int .u64 ge, .int .u32 su] 179) := ⟨_, rfl⟩
    have hX1 : Below wr.heap.size wr W1 := by rw [hW1]; go_grown
    have g1 : W1.cell? ⟨wr.heap.size, 1, none⟩ = some (.int .i64 ad) := by rw [hW1, World.cell?_alloc_at _ _ _ _ rfl]; rfl
    have g2 : W1.cell? ⟨wr.heap.size, 2, none⟩ = some (.int .u64 ge) := by rw [hW1, World.cell?_alloc_at _ _ _ _ rfl]; rfl
    have g3 : W1.cell? ⟨wr.heap.size, 3, none⟩ = some (.int .u32 su) := by rw [hW1, World.cell?_alloc_at _ _ _ _ rfl]; rfl
    have HK1 := Lib.hid (And.intro (HK.out.1.on hX1) (HK.out.2.on hX1.size))
    rw [← hW1]
    clear hW1 hX1 t0 t1 t2 t3 hb HK
    have p8 := HK1.out.1.vx.c8
    have hlt1 := HK1.out.1.vx.lt
    have hw5 := HK1.out.1.keep.size
    have p8a : ∀ x, (W1.alloc x).cell? ⟨w2.heap.size, 8, none⟩ = some (.slice a3 j c3) := fun x => (World.cell?_alloc_past _ _ _ hlt1).trans p8
    have p8b : ∀ x y, ((W1.alloc x).alloc y).cell? ⟨w2.heap.size, 8, none⟩ = some (.slice a3 j c3) := fun x y => (World.cell?_alloc_past _ _ _ (by simp; omega)).trans (p8a x)
    obtain ⟨W3, hW3⟩ : ∃ W3, W3 = ((W1.alloc (.cells #[.bool true, .int .i64 ad, .int .u64 ge, .int .u32 su, .bool false, .slice none 0 0, .slice none 0 0, .slice none 0 0, .slice none 0 0] 108)).alloc (.cells #[.pointer (some ⟨W1.heap.size, 0, none⟩)] 97)).drew := ⟨_, rfl⟩
    have hX3 : Below W1.heap.size W1 W3 := by rw [hW3]; exact below_drew' (((Below.refl _ _).alloc (Nat.le_refl _) _).alloc (by simp) _)
    have HK3 := Lib.hid (HK1.out.1.on hX3)
    have hlt3 : W1.heap.size < W3.heap.size := by rw [hW3]; simp; omega
    have hkn : Known W3 W1.heap.size ⟨low, ad, ge, su⟩ := by
     rw [hW3]
     exact ⟨((RowIs.new W1 108 (vxCells true ad ge su false (.slice none 0 0) (.slice none 0 0) (.slice none 0 0) (.slice none 0 0))).alloc _).drew⟩
    have hrow := own_rowIs HK3.out.row
    have hcell : ∀ i u, [vp W1.heap.size][i]? = some u → W3.cell? ((⟨W1.heap.size + 1, 0, none⟩ : Addr).add i) = some u := fun i u hu => by
     rw [hW3]
     exact cell_drew (cell_one_at _ _ (by simp) _ _ i u hu)
    go_region_law (first | (rw [← hW3]; refine step_append_own (by rfl) _ _ 106 (by rfl) w5.heap.size 97 i0 (.pointer none) 1 8 Tryz.underlying106 hi iz0 iz1 iz2 rfl (by decide) _ j _ (by rfl) HK3.out.row ⟨W1.heap.size + 1, 0, none⟩ 1 1 [vp W1.heap.size] (by rfl) (by rfl) hcell (fun u hu => by rw [List.mem_singleton] at hu; rw [hu]; rfl) (by unfold maxLen; omega) (by omega) (by have := hX3.size; omega) ?_; intro vz wz hownwz hgrowwz hbz; obtain ⟨ac, yc, rfl⟩ := own_form hownwz; have hNe : some w2.heap.size ≠ (Value.slice a3 j c3).ownBlock := (fun e => by have := (HK3.out.row.lt _ e.symm).1; omega); have z8 := hgrowwz.cell HK3.out.vx.c8 hNe; have zf := (World.frozen?_of_block (hgrowwz.block w2.heap.size HK3.out.vx.lt hNe)).trans (HK3.out.vx.fz 8); have HGR := Lib.hid (And.intro (HK3.out.more hkn hw5 HCJ.out hgrowwz hownwz hob5 hrow) (HK1.out.2.more (w' := wz.setCell ⟨w2.heap.size, 8, none⟩ (.slice ac (j + 1) yc)) (Nat.le_refl _) (by rw [World.size_setCell]; have := hgrowwz.size; omega))); clear hownwz hgrowwz hbz hNe))
    all_goals
     go_wp2_with fail
     exact ⟨⟨j + 1, _, ac, yc, by go_num, by omega, HGR⟩, by simp [intOf]; omega⟩
   ·obtain rfl : j = cs.length := by omega
    go_wp2_with fail
    go_returns
    refine ⟨w2, HR.out, Or.inl ⟨w5.heap.size, w2.heap.size, cs, us, ks, a1, x1, a2, x2, a3, c3, by have := hL5.size; omega, ⟨rfl, HTX.out, HOK.out, hz, HK.out.1.vx, HN5.out.keep HK.out.1.keep (fun x hx => by subst hx; exact hV5.noStr), HK.out.1.row, own_base (own_keep HRC5.out HK.out.1.keep (fun g e q => by subst q; have := (HRC5.out.lt _ e).1; have := HWO.out; omega)) HWW.out, own_base (own_keep HRU5.out HK.out.1.keep (fun g e q => by subst q; have := (HRU5.out.lt _ e).1; have := HWO.out; omega)) HWW.out, HK.out.1.len, fun i c hc => HK.out.1.kid i c hc (List.getElem?_eq_some_iff.1 hc).1⟩, HK.out.2.nd, hob5⟩, hL5.trans (HK.out.1.keep.below hL5.size (fun x hx => by subst hx; exact hz))⟩
 ·go_upto_region 12 with (fail)
  obtain ⟨w5, hw5⟩ : ∃ w5, w5 = (w4.setCell ⟨w2.heap.size, 6, none⟩ (.slice none 0 0)).setCell ⟨w2.heap.size, 7, none⟩ (.slice none 0 0) := ⟨_, rfl⟩
  have hV5 : VxAt w5 w2.heap.size true pa pg ps true (.slice none 0 0) (.slice none 0 0) (.slice none 0 0) (.slice none 0 0) := by rw [hw5]; exact hV4.putN _ _
  have hL5 : Below w2.heap.size w2 w5 := by rw [hw5]; exact (hLB.out.setCell (p := ⟨w2.heap.size, 6, none⟩) hz _).setCell (p := ⟨w2.heap.size, 7, none⟩) hz _
  rw [← hw5]
  clear hw5 v6 v7 f6 f7
  have v6 := hV5.c6
  go_wp2_with fail
  go_loopw [78] (fun i wr => i = .int .i64 0 ∧ wr = w5) (fun _ _ => 0)
  case atStart => exact ⟨rfl, rfl⟩
  case round =>
   obtain ⟨rfl, rfl⟩ := hrel
   go_wp2_with fail
   go_returns
   exact ⟨w2, HR.out, Or.inr ⟨hno, rfl⟩, hL5⟩
end Go.Proofs.YtafciefjlkdecaaGreat
namespace Go.Proofs.YtafciefjlkdecaaGreat
open Go.RowKit
theorem stepE_bytes {e : Ent} (h1 : e.key.length ≤ 255) (h2 : e.val.length ≤ 255) (r : List UInt8) : stepE (e.bytes ++ r) = some (e, r) := by
 unfold stepE
 rw [entBytes, List.append_assoc, splitL_join _ _ h1]
 dsimp only
 rw [splitL_join _ _ h2]
 rfl
theorem rawE_text : ∀ (l : List Ent), FineE l → rawE (entText l) = some l
 | [], _ => rawE_nil
 | e :: l, h => by
  have he := h e (by simp)
  have ih := rawE_text l fun x hx => h x (List.mem_cons_of_mem _ hx)
  have e1 : entText (e :: l) = e.bytes ++ entText l := by unfold entText; rw [List.flatMap_cons]
  rw [e1, rawE_some (by rw [entBytes]; simp [joinT]) (stepE_bytes (by omega) (by omega) _), ih]
  rfl
theorem parseE_text {l : List Ent} (h : FineE l) (hr : Rising Ent.key l) : parseE (entText l) = (l, 0) := parseE_ok (rawE_text l h) ((rightB_iff l).2 ⟨h, hr⟩)
theorem pot_us {n : Nat} {v : Vt} {N : Nat} (h : pot (n + 1) v ≤ N) : v.us.length ≤ N ∧ v.ch.length ≤ N + 2 := by
 rw [pot_succ] at h
 have h1 : dist2 v.ch.length ≤ dist2 v.ch.length * 2 ^ (n + 1) := Nat.le_mul_of_pos_right _ (Nat.pow_pos (by omega))
 have h2 : v.ch.length ≤ dist2 v.ch.length + 2 := by unfold dist2; omega
 omega
theorem pot_es {v : Vt} {N : Nat} (h : pot 0 v ≤ N) : v.es.length ≤ N + 2 := by
 rw [pot_zero] at h
 have h2 : v.es.length ≤ dist2 v.es.length + 2 := by unfold dist2; omega
 omega
theorem pot_kid {n : Nat} {v : Vt} {N : Nat} (h : pot (n + 1) v ≤ N) {x : Chd × Vt} (hx : x ∈ v.ch) : pot n x.2 ≤ N := by
 rw [pot_succ] at h
 have := sumK_le (f := pot n) hx
 omega
def Near (f : Int → Option Blk) : Prop := ∀ a, f a ≠ none → 0 ≤ a ∧ a < 1000000
inductive FetchRes (K : Kx) (root h : Nat) (T : Tx) (n : Nat) (v : Vt) (w : World) (e : Ending) (w' : World) : Prop
 | here (hl : v.ld = true) (he : e = .returned (.tuple #[.pointer (some ⟨v.b, 0, none⟩), .bool false, .int .i64 0])) (hb : Below w.heap.size w w')
 | came (v' : Vt) (hl : v.ld = false) (he : e = .returned (.tuple #[.pointer (some ⟨v'.b, 0, none⟩), .bool true, .int .i64 0])) (hL : Loads v { v' with b := v.b }) (hm : Mem w' n v') (hn : (blocks n v').Nodup) (hb : ∀ b ∈ blocks n v', w.heap.size ≤ b) (c : CAt w' K root h { T with wr := T.wr - 1 }) (hk : Keep (fun x => x = K.sb) w w')
 | failed (hl : v.ld = false) (he : e = .returned (.tuple #[.pointer none, .bool false, .int .i64 10])) (hw : 0 < T.wr) (c : CAt w' K root h { T with wr := 0 }) (hk : Keep (fun x => x = K.sb) w w')
theorem CAt.count {w w2 : World} {K : Kx} {root h : Nat} {T : Tx} (c : CAt w K root h T) (hk : Keep (fun x => x = K.sb) w w2) {wr' : Nat} (hs : ShelfAt w2 K.sb K.mb K.nn K.sz K.f K.gen wr') : CAt w2 K root h { T with wr := wr' } :=
 ⟨⟨hk.row c.tr.row fun e => by
  have e' : K.tb = K.sb := e
  have := c.tr.row
  rw [e'] at this
  exact absurd (this.one c.sh.row).1 (by decide)⟩, c.gn.keep hk fun x hx e => by
  have e' : x = K.sb := e
  obtain ⟨cur', hc⟩ := own_rowIs c.gn.own x hx
  rw [e'] at hc
  exact absurd (hc.one c.sh.row).1 (by decide), hs⟩
theorem loadR_ok {w : World} {K : Kx} {root h : Nat} {T : Tx} (c : CAt w K root h T) (p : Pt) (bk : Blk) (hN : Near K.f) (hf : K.f p.a = some bk) (hg : bk.gen = p.g) (hwr : T.wr ≤ 1000) (hw : T.wr ≠ 1) :
  LoadR 11 #[.pointer (some ⟨K.sb, 0, none⟩)] #[] p.a p.g p.s bk.kind bk.pay 0 w (fun w2 => CAt w2 K root h { T with wr := T.wr - 1 } ∧ Keep (fun x => x = K.sb) w w2) :=
 ⟨enters_of Tryz.func11 (by kernel_rfl) rfl, fun w1 hX => by
  have h1 := load_any p bk w1 (c.sh.on hX) hwr (hN p.a (by rw [hf]; simp)) hf hg
  refine (show Calls Tryz.prog 11 #[.pointer (some ⟨K.sb, 0, none⟩), .agg #[.int .i64 p.a, .int .u64 p.g, .int .u32 p.s]] w1 _ from h1).mono ?_
  rintro e w2 ⟨⟨h0, -⟩ | ⟨-, rfl⟩, hs, hk⟩
  ·exact absurd h0 hw
  ·exact ⟨rfl, (c.on hX).count hk hs, (Keep.of_below hX).trans' hk⟩⟩
theorem loadR_no {w : World} {K : Kx} {root h : Nat} {T : Tx} (c : CAt w K root h T) (p : Pt) (bk : Blk) (hN : Near K.f) (hf : K.f p.a = some bk) (hg : bk.gen = p.g) (hw : T.wr = 1) :
  LoadR 11 #[.pointer (some ⟨K.sb, 0, none⟩)] #[] p.a p.g p.s 0 [] 10 w (fun w2 => CAt w2 K root h { T with wr := 0 } ∧ Keep (fun x => x = K.sb) w w2) :=
 ⟨enters_of Tryz.func11 (by kernel_rfl) rfl, fun w1 hX => by
  have h1 := load_any p bk w1 (c.sh.on hX) (by omega) (hN p.a (by rw [hf]; simp)) hf hg
  refine (show Calls Tryz.prog 11 #[.pointer (some ⟨K.sb, 0, none⟩), .agg #[.int .i64 p.a, .int .u64 p.g, .int .u32 p.s]] w1 _ from h1).mono ?_
  rintro e w2 ⟨⟨-, rfl⟩ | ⟨h0, -⟩, hs, hk⟩
  ·refine ⟨rfl, (c.on hX).count hk (wr' := 0) ?_, (Keep.of_below hX).trans' hk⟩
   rw [hw] at hs
   exact hs
  ·exact absurd hw h0⟩
theorem known_flat {w : World} {n : Nat} {N : Nat} : ∀ {l : List (Chd × Vt)}, (∀ x ∈ l, Mem w n x.2 ∧ x.2.ld = false) → l.flatMap (fun x => blocks n x.2) = l.map fun x => x.2.b
 | [], _ => rfl
 | x :: l, h => by
  have hx := h x (by simp)
  have ih := known_flat (w := w) (n := n) (N := N) fun y hy => h y (List.mem_cons_of_mem _ hy)
  have e : blocks n x.2 = [x.2.b] := by
   cases n with
   | zero => exact blocks_zero _ hx.1.1
   | succ n =>
    rw [blocks_succ n _ hx.1.1]
    rcases hx.1.2 with ⟨q, -⟩ | ⟨q, k⟩
    ·rw [q.ld] at hx; simp at hx
    ·have : x.2.ch.flatMap (fun y => blocks n y.2) = [] := by
      rw [List.flatMap_eq_nil_iff]
      intro y hy
      exact (k y hy).blocks
     rw [this]
  rw [List.flatMap_cons, List.map_cons, ih, e]
  rfl
def placed (l : List (Chd × Vt)) (ks : List Nat) : List (Chd × Vt) := List.zipWith (fun (x : Chd × Vt) (b : Nat) => (x.1, { x.2 with b := b, mem := true })) l ks
theorem placed_len {l : List (Chd × Vt)} {ks : List Nat} (h : ks.length = l.length) : (placed l ks).length = l.length := by unfold placed; rw [List.length_zipWith]; omega
theorem placed_seat : ∀ {l : List (Chd × Vt)} {ks : List Nat}, ks.length = l.length → (placed l ks).map seat = l.map seat
 | [], [], _ => rfl
 | [], _ :: _, h => by simp at h
 | _ :: _, [], h => by simp at h
 | x :: l, k :: ks, h => by
  rw [show placed (x :: l) (k :: ks) = (x.1, { x.2 with b := k, mem := true }) :: placed l ks from rfl, List.map_cons, List.map_cons, placed_seat (by simpa using h)]
  rfl
theorem placed_b : ∀ {l : List (Chd × Vt)} {ks : List Nat}, ks.length = l.length → (placed l ks).map (fun x => x.2.b) = ks
 | [], [], _ => rfl
 | [], _ :: _, h => by simp at h
 | _ :: _, [], h => by simp at h
 | x :: l, k :: ks, h => by
  rw [show placed (x :: l) (k :: ks) = (x.1, { x.2 with b := k, mem := true }) :: placed l ks from rfl, List.map_cons, placed_b (by simpa using h)]
theorem placed_mem : ∀ {l : List (Chd × Vt)} {ks : List Nat} {y : Chd × Vt}, y ∈ placed l ks → ∃ (i : Nat) (x : Chd × Vt) (b : Nat), l[i]? = some x ∧ ks[i]? = some b ∧ y = (x.1, { x.2 with b := b, mem := true })
 | [], _, y, h => by simp [placed] at h
 | _ :: _, [], y, h => by simp [placed] at h
 | x :: l, k :: ks, y, h => by
  rcases List.mem_cons.1 (show y ∈ (x.1, { x.2 with b := k, mem := true }) :: placed l ks from h) with rfl | h
  ·exact ⟨0, x, k, rfl, rfl, rfl⟩
  ·obtain ⟨i, x', b, h1, h2, h3⟩ := placed_mem h
   exact ⟨i + 1, x', b, h1, h2, h3⟩
theorem Dsk_ld {n : Nat} {t : Vt} (h : Dsk n t) (b : Nat) : ∀ {w : World} {c : Chd}, t.kn = some ⟨c.addr, c.gen, c.sum⟩ → Known w b c → Mem w n { t with b := b, mem := true } := by
 intro w c hk hv
 have h0 := h.out
 cases n with
 | zero => exact ⟨rfl, Or.inr ⟨h0.2.1, _, hk, hv⟩⟩
 | succ n => exact ⟨rfl, Or.inr ⟨⟨h0.2.1, _, hk, hv⟩, h.2⟩⟩
theorem placed_fst {l : List (Chd × Vt)} {ks : List Nat} (h : ks.length = l.length) : (placed l ks).map Prod.fst = l.map Prod.fst := by
 have := congrArg (List.map Prod.fst) (placed_seat h)
 rw [List.map_map, List.map_map] at this
 exact this
theorem Mem.node {w : World} {n : Nat} {v : Vt} (h : Mem w (n + 1) v) (hl : v.ld = true) : MNode w v ∧ ∀ x ∈ v.ch, Mem w n x.2 := by
 rcases h.2 with q | q
 ·exact q
 ·rw [q.1.ld] at hl; cases hl
theorem Mem.far {w : World} {n : Nat} {v : Vt} (h : Mem w (n + 1) v) (hl : v.ld = false) : MFar w v ∧ ∀ x ∈ v.ch, Dsk n x.2 := by
 rcases h.2 with q | q
 ·rw [q.1.ld] at hl; cases hl
 ·exact q
theorem Mem.leaf {w : World} {v : Vt} (h : Mem w 0 v) (hl : v.ld = true) : MLeaf w v := by
 rcases h.2 with q | q
 ·exact q
 ·rw [q.ld] at hl; cases hl
theorem Mem.far0 {w : World} {v : Vt} (h : Mem w 0 v) (hl : v.ld = false) : MFar w v := by
 rcases h.2 with q | q
 ·rw [q.ld] at hl; cases hl
 ·exact q
theorem fetch_any {K : Kx} {root h : Nat} {T : Tx} {n : Nat} {v : Vt} {lo hi : List UInt8} (hh : Int) (w : World) (hhn : hh = (n : Int) + 1) (c : CAt w K root h T) (hm : Mem w n v) (ho : Ok n lo hi v) (hs : Shf K.f n v) (hN : Near K.f) (hp : pot n v ≤ 1000) (hwr : T.wr ≤ 1000) :
  Calls Tryz.prog 50 #[.pointer (some ⟨K.tb, 0, none⟩), .pointer (some ⟨v.b, 0, none⟩), .int .i64 hh] w fun e w' => FetchRes K root h T n v w e w' := by
 cases hl : v.ld with
 | true =>
  cases n with
  | zero =>
   obtain ⟨pa, pg, ps, a, x, h1, -⟩ := (hm.leaf hl).ex
   refine (fetch_in _ hh w h1).mono ?_
   rintro e w' ⟨he, hb⟩
   exact .here hl he hb
  | succ n =>
   obtain ⟨pa, pg, ps, a1, x1, a2, x2, a3, x3, h1, -⟩ := (hm.node hl).1.ex
   refine (fetch_in _ hh w h1).mono ?_
   rintro e w' ⟨he, hb⟩
   exact .here hl he hb
 | false =>
  have hfar : MFar w v := by
   cases n with
   | zero => exact hm.far0 hl
   | succ n => exact (hm.far hl).1
  obtain ⟨p, hk, hv⟩ := hfar.ex
  have hvb : ∀ w2, Keep (fun x => x = K.sb) w w2 → Known w2 v.b ⟨[], p.a, p.g, p.s⟩ := fun w2 hk2 => hk2.vx hv fun e => by
   have e' : v.b = K.sb := e
   obtain ⟨cur, hc⟩ := hm.cells v.b hm.head
   exact (c.notVx hc).1 (Or.inr (Or.inl e'))
  by_cases hw1 : T.wr = 1
  ·have hbk : ∃ bk : Blk, K.f p.a = some bk ∧ bk.gen = p.g := by
    cases n with
    | zero => exact ⟨_, hs p hk, rfl⟩
    | succ n => exact ⟨_, (hs.1 p hk).1, rfl⟩
   obtain ⟨bk, hf, hg⟩ := hbk
   refine (fetchR_bad 0 [] 10 hh w c.tr hv _ (loadR_no c p bk hN hf hg hw1) (by decide)).mono ?_
   rintro e w' ⟨he, h1, h2⟩
   exact .failed hl he (by omega) h1 h2
  ·cases n with
   | zero =>
    have hf := hs p hk
    have hlen : (entText v.es).length ≤ 100000 := by
     have h1 := entText_len v.es ho.fine
     have h2 := pot_es hp
     omega
    refine (fetchR_leaf 4 (entText v.es) hh w c.tr hv _ (fun w2 q => hvb w2 q.2) (loadR_ok c p _ hN hf rfl hwr hw1) rfl (by simpa using hhn) hlen 0 v.es (parseE_text ho.fine ho.rise0)).mono ?_
    rintro e w' ⟨w2, ⟨h1, h2⟩, ⟨-, b', a, x, he, hb', hv', hbx⟩ | ⟨h0, -⟩, hX⟩
    ·refine .came { v with b := b', ld := true } hl he ⟨rfl, rfl, rfl, rfl, rfl, rfl, rfl⟩ ⟨hm.in, Or.inl ⟨rfl, p.a, p.g, p.s, a, x, ?_, ?_, hbx⟩⟩ ?_ ?_ (h1.on hX) (h2.on hX)
     ·show VxAt w' b' v.kn.isSome _ _ _ _ _ _ _ _
      rw [hk]
      exact hv'
     ·intro q hq
      rw [show v.kn = some q from hq] at hk
      cases hk
      exact ⟨rfl, rfl, rfl⟩
     ·rw [blocks_zero { v with b := b', ld := true } hm.in]; simp
     ·intro b hb
      rw [blocks_zero { v with b := b', ld := true } hm.in, List.mem_singleton] at hb
      rw [hb]
      exact Nat.le_trans h2.size hb'
    ·exact absurd rfl h0
   | succ n =>
    obtain ⟨hf, hok, hkn⟩ := hs.1 p hk
    have hdsk := (hm.far hl).2
    refine (fetchR_node 5 (textN v.cs v.us) hh w c.tr hv _ (fun w2 q => hvb w2 q.2) (loadR_ok c p _ hN hf rfl hwr hw1) rfl (by omega) (by have := textN_len hok; omega)).mono ?_
    rintro e w' ⟨w2, ⟨h1, h2⟩, ⟨N, ob, cs, us, ks, a1, c1, a2, c2, a3, c3, hNw, hG, hnd, hob⟩ | ⟨hno, -⟩, hX⟩
    ·obtain ⟨rfl, rfl⟩ := textN_inj hG.ok hok hG.text
     have hkl : ks.length = v.ch.length := by rw [hG.len, List.length_map]
     have hpl := placed_len hkl
     have hkid : ∀ x ∈ placed v.ch ks, Mem w' n x.2 ∧ x.2.ld = false := fun x hx => by
      obtain ⟨i, y, b, g1, g2, rfl⟩ := placed_mem hx
      obtain ⟨b', k1, k2, -⟩ := hG.kid i y.1 (by rw [List.getElem?_map, g1]; rfl)
      rw [g2] at k1
      obtain rfl := Option.some.inj k1
      have hy := List.mem_of_getElem? g1
      exact ⟨Dsk_ld (hdsk y hy) b (hkn y hy) k2, (hdsk y hy).out.2.1⟩
     have hblk : blocks (n + 1) { v with b := ob, ld := true, ch := placed v.ch ks } = ob :: ks := by
      rw [blocks_succ n { v with b := ob, ld := true, ch := placed v.ch ks } hm.in, known_flat (w := w') (N := 0) hkid, placed_b hkl]
     have hge : ∀ b ∈ ks, N ≤ b := fun b hb => by
      obtain ⟨i, hi, e⟩ := List.getElem_of_mem hb
      obtain ⟨b', k1, -, k3⟩ := hG.kid i (v.cs[i]'(by rw [List.length_map]; omega)) (List.getElem?_eq_getElem _)
      rw [List.getElem?_eq_getElem hi, e] at k1
      rw [Option.some.inj k1]
      exact k3
     refine .came { v with b := ob, ld := true, ch := placed v.ch ks } hl hG.ret ⟨rfl, rfl, rfl, rfl, rfl, rfl, placed_seat hkl⟩ ⟨hm.in, Or.inl ⟨⟨rfl, p.a, p.g, p.s, a1, c1, a2, c2, a3, c3, ?_, ?_, ?_, ?_⟩, fun x hx => (hkid x hx).1⟩⟩ ?_ ?_ (h1.on hX) (h2.on hX)
     ·show VxAt w' ob v.kn.isSome _ _ _ _ _ (.slice a1 (placed v.ch ks).length c1) _ (.slice a3 (placed v.ch ks).length c3)
      rw [hk, hpl]
      have := hG.vx
      rw [List.length_map] at this
      exact this
     ·intro q hq
      rw [show v.kn = some q from hq] at hk
      cases hk
      exact ⟨rfl, rfl, rfl⟩
     ·show NodeAt w' (.agg #[.slice a1 (placed v.ch ks).length c1, .slice a2 v.us.length c2]) ((placed v.ch ks).map Prod.fst) v.us
      rw [hpl, placed_fst hkl]
      have := hG.node
      rw [List.length_map] at this
      exact this
     ·show KdAt w' (.slice a3 (placed v.ch ks).length c3) ((placed v.ch ks).map fun x => x.2.b)
      rw [placed_b hkl, hpl]
      have := hG.row
      rw [List.length_map] at this
      show w'.ownsRow 0 97 1 (.slice a3 v.ch.length c3) ks.length (ks.map vp)
      rw [hkl]
      exact own_base this (Nat.zero_le _)
     ·rw [hblk, List.nodup_cons]
      exact ⟨fun hq => by have := hge ob hq; omega, hnd⟩
     ·intro b hb
      rw [hblk] at hb
      have hsz := h2.size
      have hnew := hG.new
      rcases List.mem_cons.1 hb with rfl | hb
      ·omega
      ·have := hge b hb; omega
    ·exact absurd rfl (hno v.cs v.us hok)
end Go.Proofs.YtafciefjlkdecaaGreat
