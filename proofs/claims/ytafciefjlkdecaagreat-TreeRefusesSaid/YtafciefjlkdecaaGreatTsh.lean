/-
  The walks of the laws' shelf: load, save.
-/
import Derived.Test.YtafciefjlkdecaaGreatTrm
import Derived.Test.YtafciefjlkdecaaGreatTrk
import Derived.Deep.Cut
import Derived.Deep.RegionHeld3
import Derived.BigQuiet
namespace Go.Proofs.YtafciefjlkdecaaGreat
open Go.RowKit
attribute [local go_sem ↓] Go.wp_at_zero Go.wp_at_succ

/-- A shelf: its map, its generation, the load that fails. -/
structure ShelfAt (w : World) (sb mb n sz : Nat) (f : Int → Option Blk) (gen : Nat) (wrong : Int) : Prop where
  row : RowIs w 27 sb [.map (some mb), .int .u64 gen, .int .i64 wrong]
  map : ShMap w mb n sz f
section
variable {w w' : World} {sb mb n sz : Nat} {f : Int → Option Blk} {gen : Nat} {wrong : Int}
theorem ShelfAt.on (h : ShelfAt w sb mb n sz f gen wrong) (hb : Below w.heap.size w w') : ShelfAt w' sb mb n sz f gen wrong := ⟨h.row.on hb, h.map.on hb⟩
theorem ShelfAt.kept {B : Nat} (h : ShelfAt w sb mb n sz f gen wrong) (hb : Below B w w') (hB : w.heap.size ≤ B) : ShelfAt w' sb mb n sz f gen wrong := h.on (hb.mono hB)
theorem ShelfAt.ne (h : ShelfAt w sb mb n sz f gen wrong) : sb ≠ mb := fun e => by
  obtain ⟨D, ⟨es, clock, hb, _⟩, _⟩ := h.map.own
  have h1 := h.row
  subst e
  unfold RowIs at h1
  rw [hb] at h1
  simp at h1
theorem ShelfAt.c0 (h : ShelfAt w sb mb n sz f gen wrong) : w.cell? ⟨sb, 0, none⟩ = some (.map (some mb)) := h.row.cell 0
theorem ShelfAt.c1 (h : ShelfAt w sb mb n sz f gen wrong) : w.cell? ⟨sb, 1, none⟩ = some (.int .u64 gen) := h.row.cell 1
theorem ShelfAt.c2 (h : ShelfAt w sb mb n sz f gen wrong) : w.cell? ⟨sb, 2, none⟩ = some (.int .i64 wrong) := h.row.cell 2
end

set_option maxRecDepth 100000 in
set_option maxHeartbeats 4000000 in
/-- A block that is there, of that generation. -/
theorem load_yes {sb mb n sz : Nat} {f : Int → Option Blk} {gen : Nat} (a : Nat) (ps : Nat) (b : Blk) (w : World) (h : ShelfAt w sb mb n sz f gen 0) (ha : a < 1000000) (hf : f (a : Int) = some b) :
    Calls Tryz.prog 11 #[.pointer (some ⟨sb, 0, none⟩), .agg #[.int .i64 a, .int .u64 b.gen, .int .u32 ps]] w fun e w' => e = .returned (.tuple #[.int .u8 b.kind, .string (S b.pay), .int .i64 0]) ∧ Below w.heap.size w w' := by
  have HH := Lib.hid h
  have hb0 := Below.refl w.heap.size w
  clear h
  go_enter Tryz.func11, Tryz.ntmps11
  go_upto_region 1 with (fail)
  obtain ⟨W, hW_W⟩ : ∃ W, W = (w.alloc (.cells #[.int .i64 a, .int .u64 b.gen, .int .u32 ps] 54)) := ⟨_, rfl⟩
  rw [← hW_W]
  have hX_W : Below w.heap.size w W := by rw [hW_W]; go_grown
  have gp0 : W.cell? ⟨w.heap.size, 0, none⟩ = some (.int .i64 a) := by rw [hW_W, World.cell?_alloc_at _ _ _ _ (by simp)]; rfl
  have gp1 : W.cell? ⟨w.heap.size, 1, none⟩ = some (.int .u64 b.gen) := by rw [hW_W, World.cell?_alloc_at _ _ _ _ (by simp)]; rfl
  have gp2 : W.cell? ⟨w.heap.size, 2, none⟩ = some (.int .u32 ps) := by rw [hW_W, World.cell?_alloc_at _ _ _ _ (by simp)]; rfl
  clear hW_W
  have hz_W := hX_W.size
  replace HH := Lib.hid (HH.out.kept hX_W (Nat.le_refl _))
  replace hb0 := hb0.trans (hX_W.mono hb0.size)
  clear hX_W
  have c0 := HH.out.c0
  have c2 := HH.out.c2
  go_upto_region 5 with (fail)
  have hl := HH.out.map.look a (by omega)
  rw [hf] at hl
  simp only [Option.getD_some, Option.isSome_some, blkV] at hl
  have hl2 := (HH.out.on (below_drew' (Below.refl W.heap.size W))).map.look a (by omega)
  rw [hf] at hl2
  simp only [Option.getD_some, Option.isSome_some, blkV] at hl2
  have hX1 : Below W.heap.size W (W.alloc (.cells #[.int .u8 0, .string ⟨#[]⟩, .int .u64 0] 86)).drew := below_drew' ((Below.refl _ _).alloc (Nat.le_refl _) _)
  have hl3 := (HH.out.on hX1).map.look a (by omega)
  rw [hf] at hl3
  simp only [Option.getD_some, Option.isSome_some, blkV] at hl3
  have e0 : ∀ x, (W.alloc x).cell? ⟨sb, 0, none⟩ = some (.map (some mb)) := fun x => (World.cell?_alloc_past _ _ _ HH.out.row.lt).trans c0
  have hgl := World.block_lt_of_cell? W _ gp0
  have e1 : ∀ x, (W.alloc x).cell? ⟨w.heap.size, 0, none⟩ = some (.int .i64 a) := fun x => (World.cell?_alloc_past _ _ _ hgl).trans gp0
  have e2 : ∀ x, (W.alloc x).cell? ⟨w.heap.size, 1, none⟩ = some (.int .u64 b.gen) := fun x => (World.cell?_alloc_past _ _ _ hgl).trans gp1
  go_region
  all_goals
    have hXz : Below w.heap.size w (W.alloc (.cells #[.int .u8 b.kind, .string (S b.pay), .int .u64 b.gen] 86)).drew.drew := below_drew' (below_drew' (hb0.alloc hb0.size _))
    go_upto_region 8 with (fail)
    go_region
    all_goals
      go_wp2_with fail
      go_returns
      exact ⟨rfl, hXz⟩

set_option maxRecDepth 100000 in
set_option maxHeartbeats 4000000 in
/-- A save, at the first free address. -/
theorem save_any {sb mb n sz : Nat} {f : Int → Option Blk} {gen : Nat} {wrong : Int} (kd : Nat) (pay : List UInt8) (a : Nat) (w : World) (h : ShelfAt w sb mb n sz f gen wrong) (ha : a < 100000) (hfree : f (a : Int) = none) (hused : ∀ j : Nat, j < a → (f (j : Int)).isSome = true) (hn : n < 100000) (hg : gen < 1000000) :
    Calls Tryz.prog 20 #[.pointer (some ⟨sb, 0, none⟩), .int .u8 kd, .string (S pay)] w fun e w' => e = .returned (.tuple #[.agg #[.int .i64 a, .int .u64 (gen + 1 : Nat), .int .u32 0], .int .i64 0]) ∧ ShelfAt w' sb mb (n + 1) (sz + 1) (fun i => if i = (a : Int) then some ⟨kd, pay, gen + 1⟩ else f i) (gen + 1) wrong ∧ Keep (fun x => x = sb ∨ x = mb) w w' := by
  have HH := Lib.hid h
  have hb0 := Below.refl w.heap.size w
  have HU := Lib.hid hused
  clear h hused
  go_enter Tryz.func20, Tryz.ntmps20
  go_upto_region 1 with (fail)
  obtain ⟨W, hW_W⟩ : ∃ W, W = (w.alloc (.cells #[.int .i64 0, .int .u64 0, .int .u32 0] 54)) := ⟨_, rfl⟩
  rw [← hW_W]
  have hX_W : Below w.heap.size w W := by rw [hW_W]; go_grown
  have gr0 : W.cell? ⟨w.heap.size, 0, none⟩ = some (.int .i64 0) := by rw [hW_W, World.cell?_alloc_at _ _ _ _ (by simp)]; rfl
  have gr1 : W.cell? ⟨w.heap.size, 1, none⟩ = some (.int .u64 0) := by rw [hW_W, World.cell?_alloc_at _ _ _ _ (by simp)]; rfl
  have gr2 : W.cell? ⟨w.heap.size, 2, none⟩ = some (.int .u32 0) := by rw [hW_W, World.cell?_alloc_at _ _ _ _ (by simp)]; rfl
  have grf0 : W.frozen? ⟨w.heap.size, 0, none⟩ = false := by rw [hW_W, World.frozen?_alloc_at _ _ _ _ (by simp)]
  have grf1 : W.frozen? ⟨w.heap.size, 1, none⟩ = false := by rw [hW_W, World.frozen?_alloc_at _ _ _ _ (by simp)]
  have grf2 : W.frozen? ⟨w.heap.size, 2, none⟩ = false := by rw [hW_W, World.frozen?_alloc_at _ _ _ _ (by simp)]
  clear hW_W
  have hz_W := hX_W.size
  replace HH := Lib.hid (HH.out.kept hX_W (Nat.le_refl _))
  replace hb0 := hb0.trans (hX_W.mono hb0.size)
  clear hX_W
  go_wp2_with fail
  go_loopw [8] (fun i wr => ∃ j : Nat, i = .int .i64 j ∧ j ≤ a ∧ Below W.heap.size W wr) (fun i _ => a - (intOf i).toNat)
  case atStart => exact ⟨0, rfl, Nat.zero_le _, Below.refl _ _⟩
  case round =>
    obtain ⟨j, rfl, hj, hbr⟩ := hrel
    have HR := Lib.hid (HH.out.on hbr)
    have c0 := HR.out.c0
    have hl := HR.out.map.look j (by omega)
    by_cases hja : j < a
    · rw [HU.out j hja] at hl
      generalize (f (j : Int)).getD blk0 = bk at hl
      simp only [blkV] at hl
      go_wp2_with fail
      exact ⟨⟨j + 1, by go_num, by omega, hbr.alloc hbr.size _⟩, by simp [intOf]; omega⟩
    · obtain rfl : j = a := by omega
      rw [hfree] at hl
      simp only [Option.getD_none, Option.isSome_none, blkV, blk0] at hl
      have hgw : IntKind.u64.wrap ((gen : Int) + 1) = (gen : Int) + 1 := by rw [IntKind.wrap_u64]; omega
      go_upto_region 5 with (fail)
      obtain ⟨W5, hW5⟩ : ∃ W5, W5 = wr.alloc (.cells #[.int .u8 0, .string (S []), .int .u64 0] 86) := ⟨_, rfl⟩
      have hX5 : Below W.heap.size W W5 := by rw [hW5]; exact hbr.alloc hbr.size _
      have HR5 := Lib.hid (HH.out.on hX5)
      have hX6 := hb0.trans (hX5.mono hb0.size)
      have r0 := kept_cell hX5 gr0
      have r1 := kept_cell hX5 gr1
      have r2 := kept_cell hX5 gr2
      have rf0 := ((bcell hX5).2 w.heap.size 0 (World.block_lt_of_cell? W _ gr0)).trans grf0
      have rf1 := ((bcell hX5).2 w.heap.size 1 (World.block_lt_of_cell? W _ gr0)).trans grf1
      have rf2 := ((bcell hX5).2 w.heap.size 2 (World.block_lt_of_cell? W _ gr0)).trans grf2
      rw [← hW5]
      clear hW5 hl c0 HR gr0 gr1 gr2 grf0 grf1 grf2 hX5 hbr
      have c1 := HR5.out.c1
      have c1f := HR5.out.row.frozen 1
      have hsne := HR5.out.ne
      go_upto_region 6 with (fail)
      obtain ⟨W6, hW6⟩ : ∃ W6, W6 = W5.setCell ⟨sb, 1, none⟩ (.int .u64 ((gen : Int) + 1)) := ⟨_, rfl⟩
      have hrow6 : RowIs W6 27 sb [.map (some mb), .int .u64 ((gen : Int) + 1), .int .i64 wrong] := by rw [hW6]; exact HR5.out.row.put 1 _
      have HM6 := Lib.hid (show ShMap W6 mb n sz f from HR5.out.map.kept' (row := some sb) (by rw [hW6]; exact ⟨rfl, rfl, rfl, by rw [World.size_setCell]; exact Nat.le_refl _, fun i _ hi => Go.heap_setCell_other _ _ _ _ (fun e => hi (by rw [e]))⟩) (fun e => hsne (Option.some.inj e).symm))
      have hK6 : Keep (fun x => x = sb ∨ x = mb) w W6 := by rw [hW6]; exact (Keep.of_below (S := fun x => x = sb ∨ x = mb) hX6).setCell ⟨sb, 1, none⟩ (Or.inl (Or.inl rfl)) _
      have hwz := hX6.size
      have hsl := HR5.out.row.lt
      have rlt := World.block_lt_of_cell? W5 _ r0
      have hrs : w.heap.size ≠ sb := fun e => by
        have h1 := HR5.out.c0
        rw [← e, r0] at h1
        simp at h1
      have q0 : W6.cell? ⟨w.heap.size, 0, none⟩ = some (.int .i64 0) := by rw [hW6]; exact (World.cell?_setCell_other _ _ _ _ (addr_ne (Or.inl (fun e => hrs e.symm)))).trans r0
      have q1 : W6.cell? ⟨w.heap.size, 1, none⟩ = some (.int .u64 0) := by rw [hW6]; exact (World.cell?_setCell_other _ _ _ _ (addr_ne (Or.inl (fun e => hrs e.symm)))).trans r1
      have q2 : W6.cell? ⟨w.heap.size, 2, none⟩ = some (.int .u32 0) := by rw [hW6]; exact (World.cell?_setCell_other _ _ _ _ (addr_ne (Or.inl (fun e => hrs e.symm)))).trans r2
      have qf : ∀ o, W6.frozen? ⟨w.heap.size, o, none⟩ = W5.frozen? ⟨w.heap.size, o, none⟩ := fun o => by rw [hW6, World.frozen?_setCell]
      rw [← hW6]
      clear hW6 r0 r1 r2 HR5 c1 c1f hX6
      have c0 : W6.cell? ⟨sb, 0, none⟩ = some (.map (some mb)) := hrow6.cell 0
      have c1 : W6.cell? ⟨sb, 1, none⟩ = some (.int .u64 ((gen : Int) + 1)) := hrow6.cell 1
      have HPUT := Lib.hid ((HM6.out.on (below_drew' (Below.refl W6.heap.size W6))).put hn j (by omega) ⟨kd, pay, gen + 1⟩ (fun i => if i = (j : Int) then some ⟨kd, pay, gen + 1⟩ else f i) (by simp) (fun k hk => by simp [hk]))
      rw [hfree] at HPUT
      simp only [Option.isSome_none, Bool.false_eq_true, if_false] at HPUT
      rw [show blkV ⟨kd, pay, gen + 1⟩ = .agg #[.int .u8 kd, .string (S pay), .int .u64 ((gen : Int) + 1)] by simp [blkV]] at HPUT
      obtain ⟨wz, hrun, hmz, hgz⟩ := HPUT.out
      go_region
      all_goals
        have HMZ := Lib.hid hmz
        have hnz : some sb ≠ some mb := fun e => hsne (Option.some.inj e)
        have hrz : some w.heap.size ≠ some mb := fun e => by
          have e := Option.some.inj e
          obtain ⟨D, ⟨es, clock, hb, _⟩, _⟩ := HM6.out.own
          rw [← e] at hb
          simp [World.cell?, hb] at q0
        have hrowz := hrow6.drew.kept hgz hnz
        have hKz := (hK6.on (below_drew' (Below.refl _ _))).grown hgz (fun k e => Or.inl (Or.inr (Option.some.inj e).symm))
        have k0 := hgz.cell (cell_drew q0) hrz
        have k1 := hgz.cell (cell_drew q1) hrz
        have k2 := hgz.cell (cell_drew q2) hrz
        have hlt6 : w.heap.size < W6.drew.heap.size := World.block_lt_of_cell? W6.drew _ (cell_drew q0)
        have kf : ∀ o, wz.frozen? ⟨w.heap.size, o, none⟩ = W5.frozen? ⟨w.heap.size, o, none⟩ := fun o => (World.frozen?_of_block (hgz.block w.heap.size hlt6 hrz)).trans (qf o)
        have kf0 := (kf 0).trans rf0
        have kf1 := (kf 1).trans rf1
        have kf2 := (kf 2).trans rf2
        have z1 : wz.cell? ⟨sb, 1, none⟩ = some (.int .u64 ((gen : Int) + 1)) := hrowz.cell 1
        clear hmz hgz q0 q1 q2 qf kf HM6 HPUT c0 c1 hrow6 hK6
        go_wp2_with fail
        obtain ⟨s1, s2, s3, s4, s5⟩ := setL_spec (b := w.heap.size) [.int .i64 (j : Int), .int .u64 ((gen : Int) + 1), .int .u32 0] 0 wz (fun i hi => by
          rcases i with _ | _ | _ | i
          · exact ⟨_, k0⟩
          · exact ⟨_, k1⟩
          · exact ⟨_, k2⟩
          · simp at hi; omega)
        obtain ⟨ZZ, hZZ⟩ : ∃ ZZ, ZZ = ((wz.setCell ⟨w.heap.size, 0, none⟩ (.int .i64 (j : Int))).setCell ⟨w.heap.size, 1, none⟩ (.int .u64 ((gen : Int) + 1))).setCell ⟨w.heap.size, 2, none⟩ (.int .u32 0) := ⟨_, rfl⟩
        have hZ : setL wz w.heap.size 0 [.int .i64 (j : Int), .int .u64 ((gen : Int) + 1), .int .u32 0] = ZZ := by rw [hZZ]; rfl
        rw [hZ] at s1
        have t0 := s1 0 _ rfl
        have t1 := s1 1 _ rfl
        have t2 := s1 2 _ rfl
        simp only [Nat.zero_add] at t0 t1 t2
        have hgl : wz.grownBy ZZ (some w.heap.size) := by
          rw [hZZ]
          exact ⟨rfl, rfl, rfl, by simp only [World.size_setCell]; exact Nat.le_refl _, fun k _ hk => by
            have hkw : k ≠ w.heap.size := fun e => hk (by rw [e])
            rw [Go.heap_setCell_other _ _ _ _ hkw, Go.heap_setCell_other _ _ _ _ hkw, Go.heap_setCell_other _ _ _ _ hkw]⟩
        have hsz : ShelfAt ZZ sb mb (n + 1) (sz + 1) (fun i => if i = (j : Int) then some ⟨kd, pay, gen + 1⟩ else f i) (gen + 1) wrong :=
          ⟨hrowz.kept hgl (fun e => hrs (Option.some.inj e).symm), HMZ.out.kept' hgl (fun e => hrz (by rw [Option.some.inj e]))⟩
        have hKf : Keep (fun x => x = sb ∨ x = mb) w ZZ := hKz.grown hgl (fun k e => Or.inr (by have := Option.some.inj e; omega))
        rw [← hZZ]
        clear hZZ hZ s1 s2 s3 s4 s5 k0 k1 k2 kf0 kf1 kf2 hgl
        exact bodyPost_ret (v := .tuple #[.agg #[.int .i64 (j : Int), .int .u64 ((gen : Int) + 1), .int .u32 0], .int .i64 0]) (by simp [results, Tryz.results20, go_sem, t0, t1, t2]) rfl ⟨by simp, hsz, hKf⟩

end Go.Proofs.YtafciefjlkdecaaGreat
