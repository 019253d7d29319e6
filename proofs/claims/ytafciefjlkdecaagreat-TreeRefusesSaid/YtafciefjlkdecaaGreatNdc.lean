/-
  The walks of node.child and node.Parse.
-/
import Derived.Test.YtafciefjlkdecaaGreatNdb
namespace Go.Proofs.YtafciefjlkdecaaGreat
open Go.RowKit
attribute [local go_sem ↓] Go.wp_at_zero Go.wp_at_succ

abbrev ChV (low : List UInt8) (a : Int) (g s : Nat) : Value := .agg #[.string (S low), .int .i64 a, .int .u64 g, .int .u32 s]

/-- What node.child answers. -/
inductive ChRes (s0 : List UInt8) (v : Value) : Prop
  | yes (c : Chd) (rest : List UInt8) (h1 : ChdIs c) (h2 : Placed c.addr) (h3 : s0 = chT c ++ rest) (h4 : v = .tuple #[ChV c.low c.addr c.gen c.sum, .string (S rest), .bool true])
  | no (h : ∀ c rest, ChdIs c → Placed c.addr → s0 ≠ chT c ++ rest) (low : List UInt8) (a : Int) (g s : Nat) (r : List UInt8) (h4 : v = .tuple #[ChV low a g s, .string (S r), .bool false])

theorem splitL_no {s0 : List UInt8} (h : (splitL s0).2.2 = false) (c : Chd) (rest : List UInt8) (hc : ChdIs c) : s0 ≠ chT c ++ rest := fun e => by
  have h1 := splitL_join c.low (ptrL c.addr.toNat c.gen c.sum ++ rest) hc.low
  rw [e] at h
  unfold chT at h
  rw [List.append_assoc, h1] at h
  exact absurd h (by simp)

set_option maxRecDepth 100000 in
set_option maxHeartbeats 4000000 in
theorem childP_any (s0 : List UInt8) (w : World) (hl : s0.length ≤ 1000000) :
    Calls Tryz.prog 115 #[.string (S s0)] w fun e w' => (∃ v, e = .returned v ∧ ChRes s0 v) ∧ Below w.heap.size w w' := by
  have HS := Lib.hid (fun w => split_any s0 hl w)
  have HNO := Lib.hid (@splitL_no s0)
  have HOF := Lib.hid (@splitL_of s0)
  have htl : (splitL s0).2.1.length ≤ 1000000 := by have := (splitL_len s0).1; omega
  have hsv : splitV s0 = .tuple #[.string (S (splitL s0).1), .string (S (splitL s0).2.1), .bool (splitL s0).2.2] := rfl
  rw [hsv] at HS
  clear hsv
  generalize (splitL s0).1 = f at *
  generalize (splitL s0).2.1 = t at *
  generalize (splitL s0).2.2 = o at *
  have HPP := Lib.hid (fun w => parsePtr_any t w htl)
  go_enter Tryz.func115, Tryz.ntmps115
  go_upto_region 1 with (fail)
  have hX : Below w.heap.size w (w.alloc (.cells #[.string ⟨#[]⟩, .int .i64 0, .int .u64 0, .int .u32 0] 179)) := by go_grown
  have HC := Lib.hid (show (w.alloc (.cells #[.string ⟨#[]⟩, .int .i64 0, .int .u64 0, .int .u32 0] 179)).cell? ⟨w.heap.size, 0, none⟩ = some (.string ⟨#[]⟩) ∧ (w.alloc (.cells #[.string ⟨#[]⟩, .int .i64 0, .int .u64 0, .int .u32 0] 179)).cell? ⟨w.heap.size, 1, none⟩ = some (.int .i64 0) ∧ (w.alloc (.cells #[.string ⟨#[]⟩, .int .i64 0, .int .u64 0, .int .u32 0] 179)).cell? ⟨w.heap.size, 2, none⟩ = some (.int .u64 0) ∧ (w.alloc (.cells #[.string ⟨#[]⟩, .int .i64 0, .int .u64 0, .int .u32 0] 179)).cell? ⟨w.heap.size, 3, none⟩ = some (.int .u32 0) by refine ⟨?_, ?_, ?_, ?_⟩ <;> (rw [World.cell?_alloc_at _ _ _ _ rfl]; rfl))
  have HG := Lib.hid (show ∀ o, (w.alloc (.cells #[.string ⟨#[]⟩, .int .i64 0, .int .u64 0, .int .u32 0] 179)).frozen? ⟨w.heap.size, o, none⟩ = false from fun o => World.frozen?_alloc_at _ _ _ _ rfl)
  obtain ⟨W, hW⟩ : ∃ W, W = w.alloc (.cells #[.string ⟨#[]⟩, .int .i64 0, .int .u64 0, .int .u32 0] 179) := ⟨_, rfl⟩
  have hWz : W.heap.size = w.heap.size + 1 := by rw [hW]; simp
  rw [← hW] at hX HC HG ⊢
  clear hW
  go_wp2_with fail
  refine (HS.out W).mono ?_
  rintro e w1 ⟨rfl, hB1⟩
  go_wp2_with fail
  refine (HPP.out w1).mono ?_
  rintro e w2 ⟨hcase, hB2⟩
  have hBW := hB1.trans (hB2.mono hB1.size)
  have HL := Lib.hid (hX.trans (hBW.mono hX.size))
  obtain ⟨k0, k1, k2, k3⟩ := HC.out
  have HZ := Lib.hid (And.intro (kept_cell hBW k0) (And.intro (kept_cell hBW k1) (And.intro (kept_cell hBW k2) (kept_cell hBW k3))))
  have HZG := Lib.hid (fun o => ((bcell hBW).2 w.heap.size o (by omega)).trans (HG.out o))
  have hw2 : w.heap.size < w2.heap.size := by have := hB1.size; have := hB2.size; omega
  clear hB1 hB2 hBW hX HC HG k0 k1 k2 k3 hWz HS HPP
  have hu : ∃ (A : Int) (g s : Nat) (rest : List UInt8) (P : Bool), e = .returned (.tuple #[.agg #[.int .i64 A, .int .u64 g, .int .u32 s], .string (S rest), .bool P]) ∧ ChRes s0 (.tuple #[ChV f A g s, .string (S rest), .bool (o && P)]) := by
    rcases hcase with ⟨a, g, s, rest, ha, hg, hs, hst, he⟩ | ⟨hno, he⟩
    · refine ⟨a, g, s, rest, true, he, ?_⟩
      cases o with
      | true =>
        obtain ⟨h1, h2⟩ := HOF.out rfl
        exact .yes ⟨f, a, g, s⟩ rest ⟨h2, ⟨by show (0 : Int) ≤ (a : Int); omega, by show (a : Int) < 4294967296; omega⟩, hg, hs⟩ ⟨by show (0 : Int) ≤ (a : Int); omega, by show (a : Int) ≤ 2147483647; omega⟩ (by rw [h1, hst]; unfold chT; simp) rfl
      | false => exact .no (fun c rest' hc _ => HNO.out rfl c rest' hc) f a g s rest rfl
    · refine ⟨0, 0, 0, [], false, he, .no (fun c rest' hc hp hes => ?_) f 0 0 0 [] (by simp)⟩
      cases o with
      | true =>
        obtain ⟨h1, h2⟩ := HOF.out rfl
        rw [h1] at hes
        unfold chT at hes
        rw [List.append_assoc] at hes
        have e1 := splitL_join f t h2
        rw [hes, splitL_join _ _ hc.low] at e1
        simp only [Prod.mk.injEq, and_true] at e1
        have a1 := hp.1
        have a2 := hp.2
        exact hno c.addr.toNat c.gen c.sum rest' (by omega) hc.gen hc.sum e1.2.symm
      | false => exact HNO.out rfl c rest' hc hes
  obtain ⟨A, g, s, rest, P, rfl, hres⟩ := hu
  have HRES := Lib.hid hres
  clear hcase hres HNO HOF
  cases o
  all_goals
    obtain ⟨z0, z1, z2, z3⟩ := HZ.out
    have g0 := HZG.out 0
    have g1 := HZG.out 1
    have g2 := HZG.out 2
    have g3 := HZG.out 3
    go_upto_region 3 with (fail)
    have hX2 : Below w2.heap.size w2 (w2.alloc (.cells #[.int .i64 A, .int .u64 g, .int .u32 s] 54)) := by go_grown
    have y0 := kept_cell hX2 z0
    have y1 := kept_cell hX2 z1
    have y2 := kept_cell hX2 z2
    have y3 := kept_cell hX2 z3
    go_wp2_with fail
    obtain ⟨s1, -, s3, -, s5⟩ := setL_spec (b := w.heap.size) [.string (S f), .int .i64 A, .int .u64 g, .int .u32 s] 0 w2 (fun i hi => by
      rcases i with _ | _ | _ | _ | i
      · exact ⟨_, z0⟩
      · exact ⟨_, z1⟩
      · exact ⟨_, z2⟩
      · exact ⟨_, z3⟩
      · simp at hi; omega)
    have hZ : setL w2 w.heap.size 0 [.string (S f), .int .i64 A, .int .u64 g, .int .u32 s] = (((w2.setCell ⟨w.heap.size, 0, none⟩ (.string (S f))).setCell ⟨w.heap.size, 1, none⟩ (.int .i64 A)).setCell ⟨w.heap.size, 2, none⟩ (.int .u64 g)).setCell ⟨w.heap.size, 3, none⟩ (.int .u32 s) := rfl
    have t0 := s1 0 _ rfl
    have t1 := s1 1 _ rfl
    have t2 := s1 2 _ rfl
    have t3 := s1 3 _ rfl
    have t5 := s5 _ _ HL.out (Nat.le_refl _)
    simp only [Nat.zero_add] at t0 t1 t2 t3
    rw [← hZ]
    generalize setL w2 w.heap.size 0 [.string (S f), .int .i64 A, .int .u64 g, .int .u32 s] = Z at *
    have hres := HRES.out
    simp only [Bool.false_and, Bool.true_and] at hres
    have hT := t5.alloc (by omega) (.cells #[.int .i64 A, .int .u64 g, .int .u32 s] 54)
    have t0 := cell_past (.cells #[.int .i64 A, .int .u64 g, .int .u32 s] 54) t0
    have t1 := cell_past (.cells #[.int .i64 A, .int .u64 g, .int .u32 s] 54) t1
    have t2 := cell_past (.cells #[.int .i64 A, .int .u64 g, .int .u32 s] 54) t2
    have t3 := cell_past (.cells #[.int .i64 A, .int .u64 g, .int .u32 s] 54) t3
    generalize Z.alloc (.cells #[.int .i64 A, .int .u64 g, .int .u32 s] 54) = ZZ at *
    first
      | exact bodyPost_ret (v := .tuple #[ChV f A g s, .string (S rest), .bool false]) (by simp [results, Tryz.results115, go_sem, t0, t1, t2, t3]) rfl ⟨⟨_, rfl, hres⟩, hT⟩
      | exact bodyPost_ret (v := .tuple #[ChV f A g s, .string (S rest), .bool P]) (by simp [results, Tryz.results115, go_sem, t0, t1, t2, t3]) rfl ⟨⟨_, rfl, hres⟩, hT⟩

theorem set2 {w : World} {b : Nat} {x0 x1 : Value} (y0 y1 : Value) (r0 : w.cell? ⟨b, 0, none⟩ = some x0) (r1 : w.cell? ⟨b, 1, none⟩ = some x1) {Z : World} (hZ : Z = (w.setCell ⟨b, 0, none⟩ y0).setCell ⟨b, 1, none⟩ y1) :
    Z.cell? ⟨b, 0, none⟩ = some y0 ∧ Z.cell? ⟨b, 1, none⟩ = some y1 ∧ ∀ B w0, Below B w0 w → B ≤ b → Below B w0 Z := by
  subst hZ
  refine ⟨?_, ?_, fun B w0 hb hB => (hb.setCell (p := ⟨b, 0, none⟩) hB _).setCell (p := ⟨b, 1, none⟩) hB _⟩
  · rw [World.cell?_setCell_other _ _ _ _ (addr_ne (Or.inr (by decide)))]; exact World.cell?_setCell_same _ _ _ r0
  · exact World.cell?_setCell_same _ _ _ ((World.cell?_setCell_other _ _ _ _ (addr_ne (Or.inr (by decide)))).trans r1)
/-- What node.Parse has made so far: a result box p, a node's box N, the children read. -/
structure ParAt (E : TypeId) (w0 w : World) (p N : Nat) (cs : List Chd) (a : Option Addr) (y : Nat) : Prop where
  c0 : w.cell? ⟨N, 0, none⟩ = some (.slice a cs.length y)
  c1 : w.cell? ⟨N, 1, none⟩ = some (.slice none 0 0)
  fz : ∀ o, w.frozen? ⟨N, o, none⟩ = false
  r0 : w.cell? ⟨p, 0, none⟩ = some (.slice none 0 0)
  r1 : w.cell? ⟨p, 1, none⟩ = some (.slice none 0 0)
  rz : ∀ o, w.frozen? ⟨p, o, none⟩ = false
  own : w.ownsRow (N + 1) E 4 (.slice a cs.length y) cs.length (cellsC cs)
  below : Below p w0 w
  lt : p < N
theorem ParAt.ltN {E : TypeId} {w0 w : World} {p N : Nat} {cs : List Chd} {a : Option Addr} {y : Nat} (h : ParAt E w0 w p N cs a y) : N < w.heap.size := World.block_lt_of_cell? w _ h.c0
theorem ParAt.on {E : TypeId} {w0 w w' : World} {p N : Nat} {cs : List Chd} {a : Option Addr} {y : Nat} (h : ParAt E w0 w p N cs a y) (hb : Below w.heap.size w w') : ParAt E w0 w' p N cs a y :=
  ⟨kept_cell hb h.c0, kept_cell hb h.c1, fun o => ((bcell hb).2 _ o h.ltN).trans (h.fz o), kept_cell hb h.r0, kept_cell hb h.r1, fun o => ((bcell hb).2 _ o (Nat.lt_trans h.lt h.ltN)).trans (h.rz o), own_below h.own hb, h.below.trans (hb.mono (Nat.le_of_lt (Nat.lt_trans h.lt h.ltN))), h.lt⟩
/-- The row has grown, and is stored. -/
theorem ParAt.grown {E : TypeId} {w0 w w' : World} {p N : Nat} {cs cs' : List Chd} {a a' : Option Addr} {y y' : Nat} (h : ParAt E w0 w p N cs a y) (hg : w.grownBy w' (Value.slice a cs.length y).ownBlock) (ho : w'.ownsRow (N + 1) E 4 (.slice a' cs'.length y') cs'.length (cellsC cs')) :
    ParAt E w0 (w'.setCell ⟨N, 0, none⟩ (.slice a' cs'.length y')) p N cs' a' y' := by
  have eN : some N ≠ (Value.slice a cs.length y).ownBlock := fun e => by have := (h.own.lt N e.symm).1; omega
  have ep : some p ≠ (Value.slice a cs.length y).ownBlock := fun e => by have := (h.own.lt p e.symm).1; have := h.lt; omega
  have hN := h.ltN
  have hp := h.lt
  refine ⟨World.cell?_setCell_same _ _ _ (hg.cell h.c0 eN), ?_, fun o => ?_, ?_, ?_, fun o => ?_, ?_, ?_, h.lt⟩
  · rw [World.cell?_setCell_other _ _ _ _ (addr_ne (Or.inr (by decide)))]; exact hg.cell h.c1 eN
  · rw [World.frozen?_setCell]; exact (World.frozen?_of_block (hg.block N hN eN)).trans (h.fz o)
  · rw [World.cell?_setCell_other _ _ _ _ (addr_ne (Or.inl (by omega)))]; exact hg.cell h.r0 ep
  · rw [World.cell?_setCell_other _ _ _ _ (addr_ne (Or.inl (by omega)))]; exact hg.cell h.r1 ep
  · rw [World.frozen?_setCell]; exact (World.frozen?_of_block (hg.block p (by omega) ep)).trans (h.rz o)
  · exact ownsRow_setCell_other (a := ⟨N, 0, none⟩) ho (fun e => by have := (ho.lt N e).1; omega) _
  · exact (below_grown h.below hg (fun k e => by have := (h.own.lt k e).1; omega) (by omega)).setCell (p := ⟨N, 0, none⟩) (Nat.le_of_lt hp) _

/-- What a Parse of nodes answers. -/
inductive NodeRes (B : Nat) (s0 : List UInt8) (w' : World) (ev : Int → Value) (e : Ending) : Prop
  | yes (cs : List Chd) (us : List Upd) (v : Value) (h1 : s0 = textN cs us) (h2 : NodeOk cs us) (h3 : e = .returned (.tuple #[v, ev 0])) (h4 : NodeAt w' v cs us) (h5 : ∃ a y b z, v = .agg #[.slice a cs.length y, .slice b us.length z] ∧ w'.ownsRow B 179 4 (.slice a cs.length y) cs.length (cellsC cs) ∧ w'.ownsRow B 39 4 (.slice b us.length z) us.length (cellsU us))
  | no (h : ∀ cs us, NodeOk cs us → s0 ≠ textN cs us) (h3 : e = .returned (.tuple #[.agg #[.slice none 0 0, .slice none 0 0], ev 4]))

set_option maxRecDepth 100000 in
set_option maxHeartbeats 4000000 in
theorem nodeParse_any (s0 : List UInt8) (w : World) (hl : s0.length ≤ 10000) :
    Calls Tryz.prog 87 #[.string (S s0)] w fun e w' => NodeRes w.heap.size s0 w' (.int .i64) e ∧ Below w.heap.size w w' := by
  obtain ⟨i0, hi, iz0, iz1, iz2⟩ := info_parts infoC
  have HS0 := Lib.hid (show s0 = s0 from rfl)
  by_cases h1 : 1 ≤ s0.length
  · obtain ⟨k, r0, hk, hs⟩ := as_num1 1 s0 h1
    have hk' : k < 256 := by have := hk (1, k) (by simp); simpa using this
    have hsk : s0 = UInt8.ofNat k :: r0 := by rw [hs]; simp [wtext, le, List.range_succ, Nat.mod_eq_of_lt hk']
    have HK := Lib.hid hk
    have hr0 : r0.length ≤ 10000 := by rw [hsk, List.length_cons] at hl; omega
    have HSK := Lib.hid hsk
    have HS := Lib.hid hs
    clear hk hs hsk h1 hl
    go_enter Tryz.func87, Tryz.ntmps87
    go_upto_region 1 with (fail)
    obtain ⟨W, hW⟩ : ∃ W, W = w.alloc (.cells #[.slice none 0 0, .slice none 0 0] 105) := ⟨_, rfl⟩
    have hX : Below w.heap.size w W := by rw [hW]; go_grown
    have hWz := Lib.hid (show W.heap.size = w.heap.size + 1 by rw [hW]; simp)
    have HR := Lib.hid (show W.cell? ⟨w.heap.size, 0, none⟩ = some (.slice none 0 0) ∧ W.cell? ⟨w.heap.size, 1, none⟩ = some (.slice none 0 0) ∧ ∀ o, W.frozen? ⟨w.heap.size, o, none⟩ = false by
      rw [hW]; refine ⟨?_, ?_, fun o => World.frozen?_alloc_at _ _ _ _ rfl⟩ <;> (rw [World.cell?_alloc_at _ _ _ _ rfl]; rfl))
    rw [← hW]
    clear hW
    go_wp2_with fail
    rw [HS.out]
    have hX1 : Below W.heap.size W (W.alloc (.cells #[.int .i64 1] 3)) := by go_grown
    refine (read_ok (some ⟨W.heap.size, 0, none⟩) 1 [(1, k)] r0 _ (intsW_new W #[.int .i64 1] 3 (0, 0) [(1, k)] rfl) (wide1 1 _ (by decide) (by decide)) HK.out (by simp) (by omega)).mono ?_
    rintro e w1 ⟨⟨ga, gc, rfl, hgn⟩, hB1⟩
    obtain ⟨gb, go, rfl, hgb, hgc⟩ := hgn.at (by simp)
    have n0 : w1.cell? ⟨gb, go, none⟩ = some (.int .u64 (k : Nat)) := by have := hgc 0 (by simp) 0 _ rfl; simpa using this
    have hXW := hX1.trans (hB1.mono hX1.size)
    have HR1 := Lib.hid (And.intro (kept_cell hXW HR.out.1) (And.intro (kept_cell hXW HR.out.2.1) (fun o => ((bcell hXW).2 w.heap.size o (by have := hWz.out; omega)).trans (HR.out.2.2 o))))
    have HL1 := Lib.hid (hX.trans (hXW.mono hX.size))
    have hz1 : w.heap.size + 1 ≤ w1.heap.size := by have := hXW.size; have := hWz.out; omega
    clear hX1 hB1 hXW hgn hgc HR hX
    rw [← HS.out]
    go_upto_region 5 with (fail)
    obtain ⟨W4, hW4⟩ : ∃ W4, W4 = w1.alloc (.cells #[.slice none 0 0, .slice none 0 0] 105) := ⟨_, rfl⟩
    have hX4 : Below w1.heap.size w1 W4 := by rw [hW4]; go_grown
    have HP := Lib.hid (show ParAt 179 w W4 w.heap.size w1.heap.size [] none 0 from
      ⟨by rw [hW4, World.cell?_alloc_at _ _ _ _ rfl]; rfl, by rw [hW4, World.cell?_alloc_at _ _ _ _ rfl]; rfl, fun o => by rw [hW4]; exact World.frozen?_alloc_at _ _ _ _ rfl, kept_cell hX4 HR1.out.1, kept_cell hX4 HR1.out.2.1, fun o => ((bcell hX4).2 w.heap.size o (by omega)).trans (HR1.out.2.2 o), World.ownsRow_nil _ _ _ _, HL1.out.trans (hX4.mono HL1.out.size), by omega⟩)
    have n4 := kept_cell hX4 n0
    have hz4 : w1.heap.size < W4.heap.size := by rw [hW4]; simp
    rw [← hW4]
    clear hW4 hX4 HR1 HL1 n0
    go_wp2_with fail
    go_loopw [0, 5, 23] (fun s ok i wr => ∃ (j : Nat) (r : List UInt8) (cs : List Chd) (a : Option Addr) (y : Nat), s = .string (S r) ∧ ok = .bool true ∧ i = .int .u64 j ∧ j ≤ k ∧ cs.length = j ∧ r.length ≤ 10000 ∧ Hid (∀ c ∈ cs, ChdIs c ∧ Placed c.addr) ∧ Hid (r0 = kidsT cs ++ r) ∧ Hid (ParAt 179 w wr w.heap.size w1.heap.size cs a y)) (fun _ _ i _ => k - (intOf i).toNat)
    case atStart => exact ⟨0, r0, [], none, 0, rfl, rfl, rfl, Nat.zero_le _, rfl, hr0, Lib.hid (fun c hc => by simp at hc), Lib.hid rfl, HP⟩
    case round =>
      obtain ⟨j, r, cs, a, y, rfl, rfl, rfl, hj, hcj, hrl, HCS, HRR, HP⟩ := hrel
      have hj0 : (0 : Int) ≤ (j : Int) := Int.natCast_nonneg _
      have HCJ := Lib.hid hcj
      clear hcj
      by_cases hjk : j < k
      · have hj1 : (j : Int) < (k : Int) := by omega
        go_upto_region 8 with (fail)
        obtain ⟨w2, hw2⟩ : ∃ w2, w2 = wr.alloc (.cells #[.string ⟨#[]⟩, .int .i64 0, .int .u64 0, .int .u32 0] 179) := ⟨_, rfl⟩
        have hX2 : Below wr.heap.size wr w2 := by rw [hw2]; go_grown
        have HC2 := Lib.hid (show w2.cell? ⟨wr.heap.size, 0, none⟩ = some (.string ⟨#[]⟩) ∧ w2.cell? ⟨wr.heap.size, 1, none⟩ = some (.int .i64 0) ∧ w2.cell? ⟨wr.heap.size, 2, none⟩ = some (.int .u64 0) ∧ w2.cell? ⟨wr.heap.size, 3, none⟩ = some (.int .u32 0) ∧ ∀ o, w2.frozen? ⟨wr.heap.size, o, none⟩ = false by
          rw [hw2]; refine ⟨?_, ?_, ?_, ?_, fun o => World.frozen?_alloc_at _ _ _ _ rfl⟩ <;> (rw [World.cell?_alloc_at _ _ _ _ rfl]; rfl))
        have hzw2 : wr.heap.size < w2.heap.size := by rw [hw2]; simp
        rw [← hw2]
        clear hw2
        go_wp2_with fail
        refine (childP_any r w2 (by omega)).mono ?_
        rintro e w3 ⟨⟨v, rfl, hres⟩, hB3⟩
        have hX3 := hX2.trans (hB3.mono hX2.size)
        obtain ⟨k0, k1, k2, k3, kg⟩ := HC2.out
        have y0 := kept_cell hB3 k0
        have y1 := kept_cell hB3 k1
        have y2 := kept_cell hB3 k2
        have y3 := kept_cell hB3 k3
        have f0 := ((bcell hB3).2 wr.heap.size 0 hzw2).trans (kg 0)
        have f1 := ((bcell hB3).2 wr.heap.size 1 hzw2).trans (kg 1)
        have f2 := ((bcell hB3).2 wr.heap.size 2 hzw2).trans (kg 2)
        have f3 := ((bcell hB3).2 wr.heap.size 3 hzw2).trans (kg 3)
        have HX3 := Lib.hid hX3
        have hz3 := hB3.size
        clear hX2 hB3 hX3 k0 k1 k2 k3 kg HC2
        have hu : ∃ low A g s rr okb, v = .tuple #[ChV low A g s, .string (S rr), .bool okb] := by
          rcases hres with ⟨c, rest, -, -, -, h4⟩ | ⟨-, low, A, g, s, rr, h4⟩
          · exact ⟨_, _, _, _, _, _, h4⟩
          · exact ⟨_, _, _, _, _, _, h4⟩
        obtain ⟨low, A, g, s, rr, okb, rfl⟩ := hu
        have HRES := Lib.hid hres
        clear hres
        go_upto_region 9 with (fail)
        obtain ⟨s1, -, -, s4, s5⟩ := setL_spec (b := wr.heap.size) [.string (S low), .int .i64 A, .int .u64 g, .int .u32 s] 0 w3 (fun i hi => by
          rcases i with _ | _ | _ | _ | i
          · exact ⟨_, y0⟩
          · exact ⟨_, y1⟩
          · exact ⟨_, y2⟩
          · exact ⟨_, y3⟩
          · simp at hi; omega)
        have hZ : setL w3 wr.heap.size 0 [.string (S low), .int .i64 A, .int .u64 g, .int .u32 s] = (((w3.setCell ⟨wr.heap.size, 0, none⟩ (.string (S low))).setCell ⟨wr.heap.size, 1, none⟩ (.int .i64 A)).setCell ⟨wr.heap.size, 2, none⟩ (.int .u64 g)).setCell ⟨wr.heap.size, 3, none⟩ (.int .u32 s) := rfl
        have t0 := s1 0 _ rfl
        have t1 := s1 1 _ rfl
        have t2 := s1 2 _ rfl
        have t3 := s1 3 _ rfl
        have t5 := s5 _ _ HX3.out (Nat.le_refl _)
        simp only [Nat.zero_add] at t0 t1 t2 t3
        rw [← hZ]
        generalize setL w3 wr.heap.size 0 [.string (S low), .int .i64 A, .int .u64 g, .int .u32 s] = Z at *
        have HPZ := Lib.hid (HP.out.on t5)
        have hzZ := t5.size
        clear HX3 HP hZ s1 s4 s5 y0 y1 y2 y3 f0 f1 f2 f3 t5
        cases okb with
        | true =>
          have hyes : ∃ c, c = (⟨low, A, g, s⟩ : Chd) ∧ ChdIs c ∧ Placed c.addr ∧ r = chT c ++ rr := by
            rcases HRES.out with ⟨c, rest, h1, h2, h3, h4⟩ | ⟨-, low', A', g', s', rr', h4⟩
            · simp only [Value.tuple.injEq, Value.agg.injEq, Array.mk.injEq, List.cons.injEq, Value.string.injEq, Value.int.injEq, and_true, true_and] at h4
              obtain ⟨⟨e1, e2, e3, e4⟩, e5⟩ := h4
              refine ⟨c, ?_, h1, h2, ?_⟩
              · obtain ⟨lo, ad, ge, su⟩ := c
                dsimp only at *
                rw [S_inj e1, e2, show g = ge by omega, show s = su by omega]
              · rw [S_inj e5]; exact h3
            · simp at h4
          obtain ⟨c, hc, hci, hcp, hrc⟩ := hyes
          have HCS' := Lib.hid (show ∀ x ∈ cs ++ [c], ChdIs x ∧ Placed x.addr from fun x hx => (List.mem_append.1 hx).elim (HCS.out x) (fun e => by rw [List.mem_singleton.1 e]; exact ⟨hci, hcp⟩))
          have HRR' := Lib.hid (show r0 = kidsT (cs ++ [c]) ++ rr by rw [HRR.out, hrc, kidsT_app]; simp [kidsT])
          have hrr : rr.length ≤ 10000 := by rw [hrc, List.length_append] at hrl; omega
          have HCJ' := Lib.hid (show (cs ++ [c]).length = j + 1 by rw [List.length_append, List.length_singleton, HCJ.out])
          have HCL := Lib.hid (show cellsC cs ++ [.string (S low), .int .i64 A, .int .u64 g, .int .u32 s] = cellsC (cs ++ [c]) by rw [cellsC_append, cellsC_one, hc]; rfl)
          clear hrc hci hcp hc HRES HCS HRR
          have p0 := HPZ.out.c0
          have pf := HPZ.out.fz 0
          have hnl := HPZ.out.ltN
          have HOW := Lib.hid HPZ.out.own
          have hcl : cs.length ≤ 255 := by rw [HCJ.out]; omega
          have HLN := Lib.hid (show (cs ++ [c]).length = cs.length + 1 by rw [List.length_append, List.length_singleton])
          go_wp2_with (at_builtin; go_must (refine wpList_append_own_at _ rfl (.tmp 35) (.tmp 37) 100 rfl (w1.heap.size + 1) 179 i0 (.agg #[.string ByteArray.empty, .int .i64 0, .int .u64 0, .int .u32 0]) 4 40 Tryz.underlying100 hi iz0 iz1 iz2 rfl (by decide) _ cs.length _ rfl (HOW.out.alloc _) ⟨Z.heap.size, 0, none⟩ 1 1 [.string (S low), .int .i64 A, .int .u64 g, .int .u32 s] rfl rfl (cell_four_at _ _ rfl _ _ _ _ _) (kid_oneCell _ _ _ _) (by unfold maxLen; omega) (by omega) (by rw [World.size_alloc]; omega) ?_; intro vc wz hownvc hgrowvc _ hatvc; rw [HCL.out] at hownvc; obtain ⟨ac, yc, rfl⟩ := own_form hownvc; have HPA := Lib.hid (HPZ.out.on ((Below.refl _ Z).alloc (Nat.le_refl _) (.cells #[.string (S low), .int .i64 A, .int .u64 g, .int .u32 s] 179))); have hNe : some w1.heap.size ≠ (Value.slice a cs.length y).ownBlock := (fun e => by have := (HPA.out.own.lt _ e.symm).1; omega); have z0 := hgrowvc.cell HPA.out.c0 hNe; have zf := (World.frozen?_of_block (hgrowvc.block w1.heap.size HPA.out.ltN hNe)).trans (HPA.out.fz 0); have HGR := Lib.hid (HPA.out.grown (cs' := cs ++ [c]) (a' := ac) (y' := yc) hgrowvc (by rw [HLN.out]; exact hownvc)); clear hatvc hownvc hgrowvc hNe))
          rw [HLN.out] at HGR
          exact ⟨⟨j + 1, rr, cs ++ [c], ac, yc, rfl, rfl, by go_num, by omega, HCJ'.out, hrr, HCS', HRR', HGR⟩, by simp [intOf]; omega⟩
        | false =>
          have hno : ∀ c t, ChdOk c → r ≠ chT c ++ t := by
            rcases HRES.out with ⟨c, rest, h1, h2, h3, h4⟩ | ⟨h, low', A', g', s', rr', h4⟩
            · simp at h4
            · exact fun c t hc => h c t hc.is hc.addr
          have HNO := Lib.hid (show ∀ cs' us', NodeOk cs' us' → s0 ≠ textN cs' us' from fun cs' us' h' e => by
            rw [HSK.out, HRR.out] at e
            obtain ⟨c, t, h1, h2⟩ := textN_more hk' (by rw [HCJ.out]; exact hjk) (fun c hc => (HCS.out c hc).1) h' e
            exact hno c t h1 h2)
          clear hno HRES
          have q0 := HPZ.out.r0
          have q1 := HPZ.out.r1
          have qf0 := HPZ.out.rz 0
          have qf1 := HPZ.out.rz 1
          go_wp2_with fail
          obtain ⟨ZZ, hZZ⟩ : ∃ ZZ, ZZ = (Z.setCell ⟨w.heap.size, 0, none⟩ (.slice none 0 0)).setCell ⟨w.heap.size, 1, none⟩ (.slice none 0 0) := ⟨_, rfl⟩
          obtain ⟨s0', s1', s5'⟩ := set2 _ _ q0 q1 hZZ
          rw [← hZZ]
          exact bodyPost_ret (v := .tuple #[.agg #[.slice none 0 0, .slice none 0 0], .int .i64 4]) (by simp [results, Tryz.results87, go_sem, s0', s1']) rfl ⟨.no HNO.out rfl, s5' _ _ HPZ.out.below (Nat.le_refl _)⟩
      · obtain rfl : j = k := by omega
        have HCI := Lib.hid (fun c hc => (HCS.out c hc).1)
        have p0 := HP.out.c0
        have hpu := parseU_two r
        have hpl := (parseU_all r).1
        have HPT := Lib.hid (show ∀ l, (∀ u ∈ l, Okay u) → Rising Upd.key l → parseU (textU l) = (l, 0) from fun l h k => parseU_text h k)
        obtain ⟨P, hP⟩ : ∃ P, P = parseU r := ⟨_, rfl⟩
        have HBP := Lib.hid (fun w => bufParse_any r (by omega) w)
        rw [← hP] at HBP hpu hpl
        have HPB := Lib.hid hP
        clear hP
        obtain ⟨us, pe⟩ := P
        dsimp only at hpu hpl
        go_wp2_with fail
        refine (HBP.out wr).mono ?_
        rintro e w6 ⟨⟨ba, bc, rfl, hbo⟩, hB6⟩
        dsimp only at hbo ⊢
        have HP6 := Lib.hid (HP.out.on hB6)
        have hzr := HP.out.ltN
        have HBO := Lib.hid (own_base hbo (show w1.heap.size + 1 ≤ wr.heap.size by omega))
        clear hB6 hbo HP p0 HBP
        go_upto_region 14 with (fail)
        have hX7 : Below w6.heap.size w6 (w6.alloc (.cells #[.slice ba us.length bc] 103)) := by go_grown
        have HP7 := Lib.hid (HP6.out.on hX7)
        have HBO7 := Lib.hid (own_below HBO.out hX7)
        have hl6 := HP6.out.ltN
        obtain ⟨w7, hw7⟩ : ∃ w7, w7 = w6.alloc (.cells #[.slice ba us.length bc] 103) := ⟨_, rfl⟩
        have c8 : w7.cell? ⟨w6.heap.size, 0, none⟩ = some (.slice ba us.length bc) := by rw [hw7, World.cell?_alloc_at _ _ _ _ rfl]; rfl
        rw [← hw7] at hX7 HP7 HBO7 ⊢
        clear hw7 hX7 HP6 HBO
        have p1 := HP7.out.c1
        have pf1 := HP7.out.fz 1
        go_upto_region 15 with (fail)
        obtain ⟨W8, hW8⟩ : ∃ W8, W8 = w7.setCell ⟨w1.heap.size, 1, none⟩ (.slice ba us.length bc) := ⟨_, rfl⟩
        have hw1w := HP7.out.lt
        have HN8 := Lib.hid (show W8.cell? ⟨w1.heap.size, 0, none⟩ = some (.slice a cs.length y) ∧ W8.cell? ⟨w1.heap.size, 1, none⟩ = some (.slice ba us.length bc) by
          rw [hW8]; exact ⟨(World.cell?_setCell_other _ _ _ _ (addr_ne (Or.inr (by decide)))).trans HP7.out.c0, World.cell?_setCell_same _ _ _ p1⟩)
        have HR8 := Lib.hid (show W8.cell? ⟨w.heap.size, 0, none⟩ = some (.slice none 0 0) ∧ W8.cell? ⟨w.heap.size, 1, none⟩ = some (.slice none 0 0) ∧ ∀ o, W8.frozen? ⟨w.heap.size, o, none⟩ = false by
          rw [hW8]; exact ⟨(World.cell?_setCell_other _ _ _ _ (addr_ne (Or.inl (by omega)))).trans HP7.out.r0, (World.cell?_setCell_other _ _ _ _ (addr_ne (Or.inl (by omega)))).trans HP7.out.r1, fun o => by rw [World.frozen?_setCell]; exact HP7.out.rz o⟩)
        have HO8 := Lib.hid (show W8.ownsRow (w1.heap.size + 1) 179 4 (.slice a cs.length y) cs.length (cellsC cs) by
          rw [hW8]; exact ownsRow_setCell_other (a := ⟨w1.heap.size, 1, none⟩) HP7.out.own (fun e => by have h := (HP7.out.own.lt _ e).1; dsimp only at h; omega) _)
        have HU8 := Lib.hid (show W8.ownsRow (w1.heap.size + 1) 39 4 (.slice ba us.length bc) us.length (cellsU us) by
          rw [hW8]; exact ownsRow_setCell_other (a := ⟨w1.heap.size, 1, none⟩) HBO7.out (fun e => by have h := (HBO7.out.lt _ e).1; dsimp only at h; omega) _)
        have HL8 := Lib.hid (show Below w.heap.size w W8 by rw [hW8]; exact HP7.out.below.setCell (p := ⟨w1.heap.size, 1, none⟩) (Nat.le_of_lt hw1w) _)
        rw [← hW8]
        clear hW8 HP7 HBO7 c8 p1 pf1
        obtain ⟨q0, q1, qz⟩ := HR8.out
        have qf0 := qz 0
        have qf1 := qz 1
        obtain ⟨d0, d1⟩ := HN8.out
        by_cases hpe : pe = 0
        · subst hpe
          obtain ⟨hru, hok, hris⟩ := parseU_back HPB.out.symm
          have HRU := Lib.hid hru
          have HOK := Lib.hid hok
          have HRIS := Lib.hid hris
          clear hru hok hris hpu
          have HND := Lib.hid (NodeAt.mk' (slC_row HO8.out).2 (slU_row HU8.out).2)
          have HIN := Lib.hid (show NodeIn cs us from ⟨by rw [HCJ.out]; omega, by omega, fun c hc => ⟨⟨by have := (HCI.out c hc).addr; omega, by have := (HCI.out c hc).addr; omega⟩, (HCI.out c hc).gen, (HCI.out c hc).sum⟩, fun c hc => by have := (HCI.out c hc).low; omega, fun u hu => (HOK.out u hu).wf⟩)
          have HRT := Lib.hid (fun w' h => nodeRight_any (.agg #[.slice a cs.length y, .slice ba us.length bc]) cs us w' h HIN.out)
          go_wp2_with fail
          refine (HRT.out W8 HND.out).mono ?_
          rintro e w9 ⟨⟨rb, rfl, hrb⟩, hB9⟩
          have HL9 := Lib.hid (HL8.out.trans (hB9.mono HL8.out.size))
          have hlw := HL8.out.size
          have HRW := Lib.hid (show w.heap.size < w1.heap.size from hw1w)
          have HO9 := Lib.hid (own_below HO8.out hB9)
          have HU9 := Lib.hid (own_below HU8.out hB9)
          have e0 := kept_cell hB9 d0
          have e1 := kept_cell hB9 d1
          have hlw8 := World.block_lt_of_cell? W8 _ q0
          have q0 := kept_cell hB9 q0
          have q1 := kept_cell hB9 q1
          have qf0 := ((bcell hB9).2 w.heap.size 0 hlw8).trans qf0
          have qf1 := ((bcell hB9).2 w.heap.size 1 hlw8).trans qf1
          clear HRT HIN HND HO8 HU8 HL8 HR8 HN8 d0 d1 hB9 qz
          cases rb with
          | true =>
            have HOKN := Lib.hid ((hrb.1 rfl).node HRIS.out)
            have HSS := Lib.hid (show s0 = textN cs us by rw [HSK.out, HRR.out, HRU.out]; unfold textN; rw [HCJ.out])
            clear hrb
            go_wp2_with fail
            obtain ⟨ZZ, hZZ⟩ : ∃ ZZ, ZZ = (w9.setCell ⟨w.heap.size, 0, none⟩ (.slice a cs.length y)).setCell ⟨w.heap.size, 1, none⟩ (.slice ba us.length bc) := ⟨_, rfl⟩
            obtain ⟨s0', s1', s5'⟩ := set2 _ _ q0 q1 hZZ
            have hoz : ZZ.ownsRow (w1.heap.size + 1) 179 4 (.slice a cs.length y) cs.length (cellsC cs) := by
              rw [hZZ]; exact ownsRow_setCell_other (a := ⟨w.heap.size, 1, none⟩) (ownsRow_setCell_other (a := ⟨w.heap.size, 0, none⟩) HO9.out (fun e => by have h := (HO9.out.lt _ e).1; have h2 := HRW.out; dsimp only at h; omega) _) (fun e => by have h := (HO9.out.lt _ e).1; have h2 := HRW.out; dsimp only at h; omega) _
            have huz : ZZ.ownsRow (w1.heap.size + 1) 39 4 (.slice ba us.length bc) us.length (cellsU us) := by
              rw [hZZ]; exact ownsRow_setCell_other (a := ⟨w.heap.size, 1, none⟩) (ownsRow_setCell_other (a := ⟨w.heap.size, 0, none⟩) HU9.out (fun e => by have h := (HU9.out.lt _ e).1; have h2 := HRW.out; dsimp only at h; omega) _) (fun e => by have h := (HU9.out.lt _ e).1; have h2 := HRW.out; dsimp only at h; omega) _
            rw [← hZZ]
            exact bodyPost_ret (v := .tuple #[.agg #[.slice a cs.length y, .slice ba us.length bc], .int .i64 0]) (by simp [results, Tryz.results87, go_sem, s0', s1']) rfl ⟨.yes cs us _ HSS.out HOKN.out rfl (NodeAt.mk' (slC_row hoz).2 (slU_row huz).2) ⟨_, _, _, _, rfl, own_base hoz (by have := HRW.out; omega), own_base huz (by have := HRW.out; omega)⟩, s5' _ _ HL9.out (Nat.le_refl _)⟩
          | false =>
            have HNO := Lib.hid (show ∀ cs' us', NodeOk cs' us' → s0 ≠ textN cs' us' from fun cs' us' h' e => by
              rw [HSK.out, HRR.out] at e
              obtain ⟨h1, h2⟩ := textN_read hk' HCJ.out HCI.out h' e
              subst h1
              have h3 := HPT.out us' h'.ok h'.rising
              rw [← h2, ← HPB.out] at h3
              simp only [Prod.mk.injEq, and_true] at h3
              subst h3
              exact absurd (hrb.2 h'.right) (by simp))
            clear hrb
            go_wp2_with fail
            obtain ⟨ZZ, hZZ⟩ : ∃ ZZ, ZZ = (w9.setCell ⟨w.heap.size, 0, none⟩ (.slice none 0 0)).setCell ⟨w.heap.size, 1, none⟩ (.slice none 0 0) := ⟨_, rfl⟩
            obtain ⟨s0', s1', s5'⟩ := set2 _ _ q0 q1 hZZ
            rw [← hZZ]
            exact bodyPost_ret (v := .tuple #[.agg #[.slice none 0 0, .slice none 0 0], .int .i64 4]) (by simp [results, Tryz.results87, go_sem, s0', s1']) rfl ⟨.no HNO.out rfl, s5' _ _ HL9.out (Nat.le_refl _)⟩
        · have hpe4 : us = [] ∧ pe = 4 := by
            rcases hpu with h | h
            · exact absurd h hpe
            · simpa using h
          obtain ⟨rfl, rfl⟩ := hpe4
          have HNO := Lib.hid (show ∀ cs' us', NodeOk cs' us' → s0 ≠ textN cs' us' from fun cs' us' h' e => by
            rw [HSK.out, HRR.out] at e
            obtain ⟨h1, h2⟩ := textN_read hk' HCJ.out HCI.out h' e
            have h3 := HPT.out us' h'.ok h'.rising
            rw [← h2, ← HPB.out] at h3
            simp at h3)
          clear hpu hpe
          go_wp2_with fail
          obtain ⟨ZZ, hZZ⟩ : ∃ ZZ, ZZ = (W8.setCell ⟨w.heap.size, 0, none⟩ (.slice none 0 0)).setCell ⟨w.heap.size, 1, none⟩ (.slice none 0 0) := ⟨_, rfl⟩
          obtain ⟨s0', s1', s5'⟩ := set2 _ _ q0 q1 hZZ
          rw [← hZZ]
          exact bodyPost_ret (v := .tuple #[.agg #[.slice none 0 0, .slice none 0 0], .int .i64 4]) (by simp [results, Tryz.results87, go_sem, s0', s1']) rfl ⟨.no HNO.out rfl, s5' _ _ HL8.out (Nat.le_refl _)⟩
  · have hs0 : s0 = [] := List.eq_nil_of_length_eq_zero (by omega)
    subst hs0
    have HNO := Lib.hid (show ∀ cs' us', NodeOk cs' us' → [] ≠ textN cs' us' from fun cs' us' h' e => by simp [textN] at e)
    go_enter Tryz.func87, Tryz.ntmps87
    go_upto_region 1 with (fail)
    obtain ⟨W, hW⟩ : ∃ W, W = w.alloc (.cells #[.slice none 0 0, .slice none 0 0] 105) := ⟨_, rfl⟩
    have hX : Below w.heap.size w W := by rw [hW]; go_grown
    have hWz := Lib.hid (show W.heap.size = w.heap.size + 1 by rw [hW]; simp)
    have HR := Lib.hid (show W.cell? ⟨w.heap.size, 0, none⟩ = some (.slice none 0 0) ∧ W.cell? ⟨w.heap.size, 1, none⟩ = some (.slice none 0 0) ∧ ∀ o, W.frozen? ⟨w.heap.size, o, none⟩ = false by
      rw [hW]; refine ⟨?_, ?_, fun o => World.frozen?_alloc_at _ _ _ _ rfl⟩ <;> (rw [World.cell?_alloc_at _ _ _ _ rfl]; rfl))
    rw [← hW]
    clear hW
    go_wp2_with fail
    have hX1 : Below W.heap.size W (W.alloc (.cells #[.int .i64 1] 3)) := by go_grown
    refine (read_short (some ⟨W.heap.size, 0, none⟩) 1 [(1, 0)] [] _ (intsW_new W #[.int .i64 1] 3 (0, 0) [(1, 0)] rfl) (wide1 1 _ (by decide) (by decide)) (by simp) (by simp [sumW])).mono ?_
    rintro e w1 ⟨rfl, rfl⟩
    have q0 := kept_cell hX1 HR.out.1
    have q1 := kept_cell hX1 HR.out.2.1
    have qf0 := ((bcell hX1).2 w.heap.size 0 (by have := hWz.out; omega)).trans (HR.out.2.2 0)
    have qf1 := ((bcell hX1).2 w.heap.size 1 (by have := hWz.out; omega)).trans (HR.out.2.2 1)
    have HL := Lib.hid (hX.trans (hX1.mono hX.size))
    generalize W.alloc (.cells #[.int .i64 1] 3) = w1 at *
    go_wp2_with fail
    obtain ⟨ZZ, hZZ⟩ : ∃ ZZ, ZZ = (w1.setCell ⟨w.heap.size, 0, none⟩ (.slice none 0 0)).setCell ⟨w.heap.size, 1, none⟩ (.slice none 0 0) := ⟨_, rfl⟩
    obtain ⟨s0', s1', s5'⟩ := set2 _ _ q0 q1 hZZ
    rw [← hZZ]
    exact bodyPost_ret (v := .tuple #[.agg #[.slice none 0 0, .slice none 0 0], .int .i64 4]) (by simp [results, Tryz.results87, go_sem, s0', s1']) rfl ⟨.no HNO.out rfl, s5' _ _ HL.out (Nat.le_refl _)⟩

end Go.Proofs.YtafciefjlkdecaaGreat
