/-
  The walk of the document's With.
-/
import Derived.Test.YtcjeonamebnpfaaRefJ
import Derived.Deep.RegionLawGrows
import Derived.Deep.DeepCutAuto
import Derived.BigQuiet
namespace Go.Proofs.Ytcjeonamebnpfaa
open Go.RowKit
attribute [local go_sem ↓] Go.wp_at_zero Go.wp_at_succ

theorem infoV' : (Try.prog.info? 32).map (fun i => (i.zero, i.size, i.bytes)) = some (some (.agg #[.int .u8 0, .string ByteArray.empty, .string ByteArray.empty, .int .u64 0]), 4, 48) := by kernel_rfl
theorem UAt.store {w : World} {g : Nat} {x : Upd} (h : UAt w g x) (J : Upd) : UAt ((((w.setCell ⟨g, 0, none⟩ (.int .u8 J.kind)).setCell ⟨g, 1, none⟩ (.string (S J.key))).setCell ⟨g, 2, none⟩ (.string (S J.val))).setCell ⟨g, 3, none⟩ (.int .u64 J.delta)) g J := by
  have h0 : UAt (w.setCell ⟨g, 0, none⟩ (.int .u8 J.kind)) g ⟨J.kind, x.key, x.val, x.delta⟩ :=
    ⟨World.cell?_setCell_same w _ _ h.c0, (World.cell?_setCell_other w _ _ _ (off_ne (by decide))).trans h.c1, (World.cell?_setCell_other w _ _ _ (off_ne (by decide))).trans h.c2, (World.cell?_setCell_other w _ _ _ (off_ne (by decide))).trans h.c3, fun i => by rw [World.frozen?_setCell]; exact h.free i, by rw [World.size_setCell]; exact h.lt⟩
  exact ((h0.setKey J.key).setVal J.val).setDelta J.delta
theorem cell_four_at2 (w : World) (b : Nat) (hb : w.heap.size = b) (x y z u : Value) (t : TypeId) : ∀ j v, [x, y, z, u][j]? = some v → (w.alloc (.cells #[x, y, z, u] t)).cell? ((⟨b, 0, none⟩ : Addr).add j) = some v := by
  subst hb
  exact cell_four_new w x y z u t
/-- An update's cells, wherever they lie. -/
structure XAt (W : World) (b o : Nat) (x : Upd) : Prop where
  c0 : W.cell? ⟨b, o, none⟩ = some (.int .u8 x.kind)
  c1 : W.cell? ⟨b, o + 1, none⟩ = some (.string (S x.key))
  c2 : W.cell? ⟨b, o + 2, none⟩ = some (.string (S x.val))
  c3 : W.cell? ⟨b, o + 3, none⟩ = some (.int .u64 x.delta)
  lt : b < W.heap.size
  e : True
theorem XAt.on {W w' : World} {b o B : Nat} {x : Upd} (h : XAt W b o x) (hb : Below B W w') (hB : b < B) : XAt w' b o x :=
  ⟨(hb.cell (p := ⟨b, o, none⟩) hB).trans h.c0, (hb.cell (p := ⟨b, o + 1, none⟩) hB).trans h.c1, (hb.cell (p := ⟨b, o + 2, none⟩) hB).trans h.c2, (hb.cell (p := ⟨b, o + 3, none⟩) hB).trans h.c3, Nat.lt_of_lt_of_le h.lt hb.size, trivial⟩

theorem XAt.grown {W w' : World} {b o : Nat} {x : Upd} (h : XAt W b o x) {r : Option Nat} (hg : W.grownBy w' r) (hne : r ≠ some b) : XAt w' b o x :=
  ⟨hg.cell h.c0 (fun e => hne e.symm), hg.cell h.c1 (fun e => hne e.symm), hg.cell h.c2 (fun e => hne e.symm), hg.cell h.c3 (fun e => hne e.symm), Nat.lt_of_lt_of_le h.lt hg.size, trivial⟩

set_option maxRecDepth 100000 in
set_option maxHeartbeats 16000000 in
theorem refWith_any (ao : Option Addr) (c : Nat) (l : List Upd) (k : Nat) (key val : List UInt8) (d : Nat) (w : World) (hs : SlAt Upd.cells 4 w ao l) (hl : l.length ≤ 1000) (hlt : ∀ x ∈ l, Tm x) (hu : Tm ⟨k, key, val, d⟩) :
    Calls Try.prog 36 #[.slice ao l.length c, .agg #[.int .u8 k, .string (S key), .string (S val), .int .u64 d]] w fun e w' => (∃ a c', e = .returned (.slice a (wOut ⟨k, key, val, d⟩ l).length c') ∧ w'.ownsRow w.heap.size 32 4 (.slice a (wOut ⟨k, key, val, d⟩ l).length c') (wOut ⟨k, key, val, d⟩ l).length (cellsU (wOut ⟨k, key, val, d⟩ l))) ∧ Below w.heap.size w w' := by
  obtain ⟨i0, hi, iz0, iz1, iz2⟩ := info_parts infoV'
  have HS := Lib.hid hs
  have HT := Lib.hid hlt
  have HW := Lib.hid (show wOut ⟨k, key, val, d⟩ l = if (wFold ⟨k, key, val, d⟩ l).2 then (wFold ⟨k, key, val, d⟩ l).1 else (wFold ⟨k, key, val, d⟩ l).1 ++ [⟨k, key, val, d⟩] from rfl)
  generalize wOut ⟨k, key, val, d⟩ l = R at *
  clear hs hlt
  go_enter Try.func36, Try.ntmps36
  go_wp2_with fail
  go_loopw [7, 5, 6] (fun i ov dn wr => ∃ (j : Nat) (o : List Upd) (b : Bool), i = .int .i64 j ∧ j ≤ l.length ∧ Hid (wFold ⟨k, key, val, d⟩ (l.take j) = (o, b)) ∧ dn = .bool b ∧ wr.ownsRow (w.heap.size + 1) 32 4 ov o.length (cellsU o) ∧ Below (w.heap.size + 1) (w.alloc (.cells #[.int .u8 k, .string (S key), .string (S val), .int .u64 d] 32)) wr) (fun i _ _ _ => l.length - (intOf i).toNat)
  case atStart => exact ⟨0, [], false, rfl, Nat.zero_le _, Lib.hid rfl, rfl, World.ownsRow_nil _ _ _ _, Below.refl _ _⟩
  case round =>
    obtain ⟨j, o, b, rfl, hj, hfold, rfl, ho, hBL⟩ := hrel
    have hj0 : (0 : Int) ≤ (j : Int) := Int.natCast_nonneg _
    obtain ⟨ov, oc, eo⟩ := own_form ho
    subst eo
    have HO0 := Lib.hid ho
    have HU0 := Lib.hid ((UAt.full w _ rfl ⟨k, key, val, d⟩ 32).on hBL (Nat.lt_succ_self _))
    have hol : o.length ≤ 2000 := by
      have h1 := wFold_len ⟨k, key, val, d⟩ l j hj
      rw [hfold.out] at h1
      dsimp only at h1
      omega
    have hsz : w.heap.size + 1 ≤ wr.heap.size := by have := hBL.size; simpa using this
    have hBw : Below w.heap.size w wr := (Below.alloc (Below.refl _ w) (Nat.le_refl _) (.cells #[.int .u8 k, .string (S key), .string (S val), .int .u64 d] 32)).trans (hBL.mono (Nat.le_succ _))
    clear ho
    by_cases hjl : j < l.length
    · have hj1 : (j : Int) < (l.length : Int) := by omega
      obtain ⟨bx, off, rfl, hb, t0, t1, t2, t3⟩ := SlAt.cells4 HS.out j hjl
      have HX0 := Lib.hid (show XAt wr bx (off + j * 4) l[j] from ⟨(cell_below hBw hb _).trans t0, (cell_below hBw hb _).trans t1, (cell_below hBw hb _).trans t2, (cell_below hBw hb _).trans t3, Nat.lt_of_lt_of_le hb hBw.size, trivial⟩)
      have hst := Lib.hid (wFold_snoc ⟨k, key, val, d⟩ l j hjl)
      have htx := HT.out _ (List.getElem_mem hjl)
      clear t0 t1 t2 t3 hBw
      generalize l[j] = x at *
      have hB0 : Below wr.heap.size wr wr := Below.refl _ _
      by_cases hk : x.key = key
      · subst hk
        have hkb : (x.key == x.key) = true := by simp
        obtain ⟨x0, x1, x2, x3, -, -⟩ := HX0.out
        obtain ⟨u0, u1, u2, u3, -, -⟩ := HU0.out
        dsimp only at u0 u1 u2 u3
        go_wp2_with fail
        go_quiet (fail)
        obtain ⟨wqa, hwqa⟩ : ∃ wqa, wqa = wr.drewN nq := ⟨_, rfl⟩
        rw [← hwqa]
        have hXa : Below wr.heap.size wr wqa := by rw [hwqa]; exact below_drewN (Below.refl _ _) nq
        clear hwqa
        have HOa := Lib.hid (own_below HO0.out hXa)
        have HUa := Lib.hid (HU0.out.on hXa HU0.out.lt)
        have HXa := Lib.hid (HX0.out.on hXa HX0.out.lt)
        have hBa := hB0.trans (hXa.mono hB0.size)
        clear hXa
        clear x0 x1 x2 x3 u0 u1 u2 u3
        obtain ⟨x0, x1, x2, x3, -, -⟩ := HXa.out
        obtain ⟨u0, u1, u2, u3, -, -⟩ := HUa.out
        dsimp only at u0 u1 u2 u3
        have HJ := Lib.hid (fun W => refJoin_any x.kind x.key x.val x.delta k x.key val d htx hu W)
        have HJT := Lib.hid (joinL_tm htx hu)
        generalize hJe : joinL ⟨x.kind, x.key, x.val, x.delta⟩ ⟨k, x.key, val, d⟩ = J at *
        have HJE := Lib.hid hJe
        unfold updV at HJ
        clear hJe
        go_upto_region 7 with (fail)
        go_cut [8] (fun s wx => ∃ g, s = .pointer (some ⟨g, 0, none⟩) ∧ UAt wx g J ∧ Below wqa.heap.size wqa wx)
        case first =>
          have y0 := cell_past (.cells #[.int .u8 0, .string ⟨#[]⟩, .string ⟨#[]⟩, .int .u64 0] 32) x0
          have v0 := cell_past (.cells #[.int .u8 0, .string ⟨#[]⟩, .string ⟨#[]⟩, .int .u64 0] 32) u0
          have y1 := cell_past (.cells #[.int .u8 0, .string ⟨#[]⟩, .string ⟨#[]⟩, .int .u64 0] 32) x1
          have v1 := cell_past (.cells #[.int .u8 0, .string ⟨#[]⟩, .string ⟨#[]⟩, .int .u64 0] 32) u1
          have y2 := cell_past (.cells #[.int .u8 0, .string ⟨#[]⟩, .string ⟨#[]⟩, .int .u64 0] 32) x2
          have v2 := cell_past (.cells #[.int .u8 0, .string ⟨#[]⟩, .string ⟨#[]⟩, .int .u64 0] 32) u2
          have y3 := cell_past (.cells #[.int .u8 0, .string ⟨#[]⟩, .string ⟨#[]⟩, .int .u64 0] 32) x3
          have v3 := cell_past (.cells #[.int .u8 0, .string ⟨#[]⟩, .string ⟨#[]⟩, .int .u64 0] 32) u3
          go_region_law (first
            | (go_simp; go_at_call 63; refine (HJ.out _).mono ?_; rintro e w4 ⟨rfl, hb4⟩; have hX4 := Lib.hid ((below_drew' (Below.refl wqa.heap.size wqa)).trans hb4); clear hb4)
            | (go_simp; go_at_call 63; refine (HJ.out _).mono ?_; rintro e w4 ⟨rfl, hb4⟩; have hY4 := Lib.hid ((below_drew' (Below.refl (wqa.alloc (.cells #[.int .u8 0, .string ByteArray.empty, .string ByteArray.empty, .int .u64 0] 32)).heap.size (wqa.alloc (.cells #[.int .u8 0, .string ByteArray.empty, .string ByteArray.empty, .int .u64 0] 32)))).trans hb4); have HZ := Lib.hid ((UAt.new wqa 32).on hY4.out (UAt.new wqa 32).lt); have hX4 := Lib.hid (((Below.refl wqa.heap.size wqa).alloc (Nat.le_refl _) (.cells #[.int .u8 0, .string ByteArray.empty, .string ByteArray.empty, .int .u64 0] 32)).trans (hY4.out.mono (by simp))); obtain ⟨z0, z1, z2, z3, zf, -⟩ := HZ.out; have zf0 := zf 0; have zf1 := zf 1; have zf2 := zf 2; have zf3 := zf 3; dsimp only at z0 z1 z2 z3; clear hb4 zf))
          all_goals
            go_wp2_with fail
            go_meet
            first
              | exact ⟨w4.heap.size, rfl, UAt.full w4 _ rfl J _, hX4.out.alloc hX4.out.size _⟩
              | exact ⟨wqa.heap.size, rfl, HZ.out.store J, (((hX4.out.setCell (p := ⟨wqa.heap.size, 0, none⟩) (Nat.le_refl _) _).setCell (p := ⟨wqa.heap.size, 1, none⟩) (Nat.le_refl _) _).setCell (p := ⟨wqa.heap.size, 2, none⟩) (Nat.le_refl _) _).setCell (p := ⟨wqa.heap.size, 3, none⟩) (Nat.le_refl _) _⟩
        case rest =>
          obtain ⟨gJ, rfl, HJat, hX4⟩ := hcut
          obtain ⟨z0, z1, z2, z3, -, -⟩ := HJat
          have HO4 := Lib.hid (own_below HOa.out hX4)
          have hB4 := hBL.trans ((hBa.trans (hX4.mono hBa.size)).mono hsz)
          clear x0 x1 x2 x3 u0 u1 u2 u3 hX4
          go_wp2_with (at_builtin; go_must (refine wpList_append_own_at _ rfl (.tmp 29) (.tmp 31) 91 rfl (w.heap.size + 1) 32 i0 (.agg #[.int .u8 0, .string ByteArray.empty, .string ByteArray.empty, .int .u64 0]) 4 48 Try.underlying91 hi iz0 iz1 iz2 rfl (by decide) _ o.length _ rfl (HO4.out.alloc _) ⟨wc.heap.size, 0, none⟩ 1 1 [.int .u8 J.kind, .string (S J.key), .string (S J.val), .int .u64 J.delta] rfl rfl (cell_four_new _ _ _ _ _ _) (four_oneCell _ _ _ _) (by unfold maxLen; omega) (by omega) (by have := hB4.size; simp at this ⊢; omega) ?_; intro vz wz hownwz hgrowwz _ _))
          have hstep : wStep ⟨k, x.key, val, d⟩ (o, b) x = (o ++ [J], true) := by
            unfold wStep
            rw [if_pos rfl, ← HJE.out]
          exact ⟨⟨j + 1, o ++ [J], true, by go_num, by omega, Lib.hid (by rw [hst.out, hfold.out, hstep]), rfl, by rw [cellsU_snoc, List.length_append, List.length_singleton]; exact hownwz, below_grown (hB4.alloc (by have := hB4.size; simp at this ⊢; omega) _) hgrowwz (fun k e => (HO4.out.lt k e).1) (by have := hB4.size; simp at this ⊢; omega)⟩, by simp [intOf]; omega⟩
      · have hkb : (x.key == key) = false := by simpa using hk
        obtain ⟨x0, x1, x2, x3, -, -⟩ := HX0.out
        obtain ⟨u0, u1, u2, u3, -, -⟩ := HU0.out
        dsimp only at u0 u1 u2 u3
        go_wp2_with fail
        go_quiet (fail)
        obtain ⟨wqa, hwqa⟩ : ∃ wqa, wqa = wr.drewN nq := ⟨_, rfl⟩
        rw [← hwqa]
        have hXa : Below wr.heap.size wr wqa := by rw [hwqa]; exact below_drewN (Below.refl _ _) nq
        clear hwqa
        have HOa := Lib.hid (own_below HO0.out hXa)
        have HUa := Lib.hid (HU0.out.on hXa HU0.out.lt)
        have HXa := Lib.hid (HX0.out.on hXa HX0.out.lt)
        have hBa := hB0.trans (hXa.mono hB0.size)
        clear hXa
        clear x0 x1 x2 x3 u0 u1 u2 u3
        obtain ⟨x0, x1, x2, x3, -, -⟩ := HXa.out
        obtain ⟨u0, u1, u2, u3, -, -⟩ := HUa.out
        dsimp only at u0 u1 u2 u3
        cases b with
        | true =>
          go_wp2_with fail
          go_quiet (fail)
          obtain ⟨wqb, hwqb⟩ : ∃ wqb, wqb = wqa.drewN nq := ⟨_, rfl⟩
          rw [← hwqb]
          have hXb : Below wqa.heap.size wqa wqb := by rw [hwqb]; exact below_drewN (Below.refl _ _) nq
          clear hwqb
          have HOb := Lib.hid (own_below HOa.out hXb)
          have HUb := Lib.hid (HUa.out.on hXb HUa.out.lt)
          have HXb := Lib.hid (HXa.out.on hXb HXa.out.lt)
          have hBb := hBa.trans (hXb.mono hBa.size)
          clear hXb
          clear x0 x1 x2 x3 u0 u1 u2 u3
          obtain ⟨x0, x1, x2, x3, -, -⟩ := HXb.out
          obtain ⟨u0, u1, u2, u3, -, -⟩ := HUb.out
          dsimp only at u0 u1 u2 u3
          have hBb' := hBL.trans (hBb.mono hsz)
          have hzb := hBb.size
          go_wp2_with (at_builtin; go_must (refine wpList_append_own_at _ rfl (.tmp 49) (.tmp 54) 91 rfl (w.heap.size + 1) 32 i0 (.agg #[.int .u8 0, .string ByteArray.empty, .string ByteArray.empty, .int .u64 0]) 4 48 Try.underlying91 hi iz0 iz1 iz2 rfl (by decide) _ o.length _ rfl (HOb.out.alloc _) ⟨wqb.heap.size, 0, none⟩ 1 1 [.int .u8 x.kind, .string (S x.key), .string (S x.val), .int .u64 x.delta] rfl rfl (cell_four_new _ _ _ _ _ _) (four_oneCell _ _ _ _) (by unfold maxLen; omega) (by omega) (by have := hBL.size; simp at this ⊢; omega) ?_; intro vz wz hownwz hgrowwz _ _))
          have hstep : wStep ⟨k, key, val, d⟩ (o, true) x = (o ++ [x], true) := by
            unfold wStep
            rw [if_neg hk, if_neg (by simp)]
          exact ⟨⟨j + 1, o ++ [x], true, by go_num, by omega, Lib.hid (by rw [hst.out, hfold.out, hstep]), rfl, by rw [cellsU_snoc, List.length_append, List.length_singleton]; exact hownwz, below_grown (hBb'.alloc (by have := hBb'.size; simp at this ⊢; omega) _) hgrowwz (fun k e => (HOb.out.lt k e).1) (by have := hBb'.size; simp at this ⊢; omega)⟩, by simp [intOf]; omega⟩
        | false =>
          cases hbl : bl key x.key with
          | false =>
            have hbl' : Op.bytesLess key x.key = false := hbl
            have hbm : Op.bytesLess x.key key = true := by
              rcases bl_not hbl with h | h
              · exact absurd h hk
              · exact h
            go_wp2_with fail
            go_quiet (fail)
            obtain ⟨wqb, hwqb⟩ : ∃ wqb, wqb = wqa.drewN nq := ⟨_, rfl⟩
            rw [← hwqb]
            have hXb : Below wqa.heap.size wqa wqb := by rw [hwqb]; exact below_drewN (Below.refl _ _) nq
            clear hwqb
            have HOb := Lib.hid (own_below HOa.out hXb)
            have HUb := Lib.hid (HUa.out.on hXb HUa.out.lt)
            have HXb := Lib.hid (HXa.out.on hXb HXa.out.lt)
            have hBb := hBa.trans (hXb.mono hBa.size)
            clear hXb
            clear x0 x1 x2 x3 u0 u1 u2 u3
            obtain ⟨x0, x1, x2, x3, -, -⟩ := HXb.out
            obtain ⟨u0, u1, u2, u3, -, -⟩ := HUb.out
            dsimp only at u0 u1 u2 u3
            have hBb' := hBL.trans (hBb.mono hsz)
            have hzb := hBb.size
            go_wp2_with (at_builtin; go_must (refine wpList_append_own_at _ rfl (.tmp 49) (.tmp 54) 91 rfl (w.heap.size + 1) 32 i0 (.agg #[.int .u8 0, .string ByteArray.empty, .string ByteArray.empty, .int .u64 0]) 4 48 Try.underlying91 hi iz0 iz1 iz2 rfl (by decide) _ o.length _ rfl (HOb.out.alloc _) ⟨wqb.heap.size, 0, none⟩ 1 1 [.int .u8 x.kind, .string (S x.key), .string (S x.val), .int .u64 x.delta] rfl rfl (cell_four_new _ _ _ _ _ _) (four_oneCell _ _ _ _) (by unfold maxLen; omega) (by omega) (by have := hBL.size; simp at this ⊢; omega) ?_; intro vz wz hownwz hgrowwz _ _))
            have hstep : wStep ⟨k, key, val, d⟩ (o, false) x = (o ++ [x], false) := by
              unfold wStep
              rw [if_neg hk, if_neg (by rw [hbl]; simp)]
            exact ⟨⟨j + 1, o ++ [x], false, by go_num, by omega, Lib.hid (by rw [hst.out, hfold.out, hstep]), rfl, by rw [cellsU_snoc, List.length_append, List.length_singleton]; exact hownwz, below_grown (hBb'.alloc (by have := hBb'.size; simp at this ⊢; omega) _) hgrowwz (fun k e => (HOb.out.lt k e).1) (by have := hBb'.size; simp at this ⊢; omega)⟩, by simp [intOf]; omega⟩
          | true =>
            have hbl' : Op.bytesLess key x.key = true := hbl
            have hbm : Op.bytesLess x.key key = false := bl_asymm hbl
            go_wp2_with fail
            go_quiet (fail)
            obtain ⟨wqb, hwqb⟩ : ∃ wqb, wqb = wqa.drewN nq := ⟨_, rfl⟩
            rw [← hwqb]
            have hXb : Below wqa.heap.size wqa wqb := by rw [hwqb]; exact below_drewN (Below.refl _ _) nq
            clear hwqb
            have HOb := Lib.hid (own_below HOa.out hXb)
            have HUb := Lib.hid (HUa.out.on hXb HUa.out.lt)
            have HXb := Lib.hid (HXa.out.on hXb HXa.out.lt)
            have hBb := hBa.trans (hXb.mono hBa.size)
            clear hXb
            clear x0 x1 x2 x3 u0 u1 u2 u3
            obtain ⟨x0, x1, x2, x3, -, -⟩ := HXb.out
            obtain ⟨u0, u1, u2, u3, -, -⟩ := HUb.out
            dsimp only at u0 u1 u2 u3
            have hBb' := hBL.trans (hBb.mono hsz)
            have hzb := hBb.size
            have hxl := HXb.out.lt
            go_wp2_with (first
              | (at_builtin; (refine wpList_append_own_at _ rfl (.tmp 45) (.tmp 47) 91 rfl (w.heap.size + 1) 32 i0 (.agg #[.int .u8 0, .string ByteArray.empty, .string ByteArray.empty, .int .u64 0]) 4 48 Try.underlying91 hi iz0 iz1 iz2 rfl (by decide) _ o.length _ rfl (HOb.out.alloc _) ⟨wqb.heap.size, 0, none⟩ 1 1 [.int .u8 k, .string (S key), .string (S val), .int .u64 d] rfl rfl (cell_four_new _ _ _ _ _ _) (four_oneCell _ _ _ _) (by unfold maxLen; omega) (by omega) (by have := hBL.size; simp at this ⊢; omega) ?_; intro vy wy hownwy hgrowwy _ _); have HY := Lib.hid hownwy; have hBy := below_grown (hBb'.alloc (by have := hBb'.size; simp at this ⊢; omega) (.cells #[.int .u8 k, .string (S key), .string (S val), .int .u64 d] 32)) hgrowwy (fun k e => (HOb.out.lt k e).1) (by have := hBb'.size; simp at this ⊢; omega); have HXy := Lib.hid ((HXb.out.on ((Below.refl wqb.heap.size wqb).alloc (Nat.le_refl _) (.cells #[.int .u8 k, .string (S key), .string (S val), .int .u64 d] 32)) hxl).grown hgrowwy (fun e => by have h1 := (HOb.out.lt _ e).1; omega)); clear hownwy hgrowwy x0 x1 x2 x3 u0 u1 u2 u3; obtain ⟨x0, x1, x2, x3, -, -⟩ := HXy.out)
              | (at_builtin; go_must (refine wpList_append_own_at _ rfl (.tmp 49) (.tmp 54) 91 rfl (w.heap.size + 1) 32 i0 (.agg #[.int .u8 0, .string ByteArray.empty, .string ByteArray.empty, .int .u64 0]) 4 48 Try.underlying91 hi iz0 iz1 iz2 rfl (by decide) _ (o.length + 1) _ rfl (HY.out.alloc _) ⟨wy.heap.size, 0, none⟩ 1 1 [.int .u8 x.kind, .string (S x.key), .string (S x.val), .int .u64 x.delta] rfl rfl (cell_four_new _ _ _ _ _ _) (four_oneCell _ _ _ _) (by unfold maxLen; omega) (by omega) (by have := hBy.size; simp at this ⊢; omega) ?_; intro vz wz hownwz hgrowwz _ _)))
            have hstep : wStep ⟨k, key, val, d⟩ (o, false) x = (o ++ [⟨k, key, val, d⟩] ++ [x], true) := by
              unfold wStep
              rw [if_neg hk, if_pos ⟨rfl, hbl⟩]
            exact ⟨⟨j + 1, o ++ [⟨k, key, val, d⟩] ++ [x], true, by go_num, by omega, Lib.hid (by rw [hst.out, hfold.out, hstep]), rfl, by rw [cellsU_snoc, cellsU_snoc, List.length_append, List.length_append, List.length_singleton, List.length_singleton]; exact hownwz, below_grown (hBy.alloc (by have := hBy.size; simp at this ⊢; omega) _) hgrowwz (fun k e => (HY.out.lt k e).1) (by have := hBy.size; simp at this ⊢; omega)⟩, by simp [intOf]; omega⟩
    · obtain rfl : j = l.length := by omega
      have hf := hfold.out
      rw [List.take_length] at hf
      cases b with
      | true =>
        have hR : R = o := by rw [HW.out, hf]; rfl
        subst hR
        go_wp2_with fail
        refine bodyPost_ret (v := .slice ov R.length oc) (by simp [results, Try.results36, go_sem]) rfl ⟨⟨ov, oc, rfl, own_base HO0.out (Nat.le_succ _)⟩, hBw⟩
      | false =>
        have hR : R = o ++ [⟨k, key, val, d⟩] := by rw [HW.out, hf]; rfl
        obtain ⟨u0, u1, u2, u3, -, -⟩ := HU0.out
        dsimp only at u0 u1 u2 u3
        go_wp2_with (at_builtin; go_must (refine wpList_append_own_at _ rfl (.tmp 58) (.tmp 60) 91 rfl (w.heap.size + 1) 32 i0 (.agg #[.int .u8 0, .string ByteArray.empty, .string ByteArray.empty, .int .u64 0]) 4 48 Try.underlying91 hi iz0 iz1 iz2 rfl (by decide) _ o.length _ rfl (HO0.out.alloc _) ⟨wr.heap.size, 0, none⟩ 1 1 [.int .u8 k, .string (S key), .string (S val), .int .u64 d] rfl rfl (cell_four_new _ _ _ _ _ _) (four_oneCell _ _ _ _) (by unfold maxLen; omega) (by omega) (by have := hBL.size; simp at this ⊢; omega) ?_; intro vz wz hownwz hgrowwz _ _))
        obtain ⟨a9, c9, e9⟩ := own_form hownwz
        subst e9
        have HR := Lib.hid hR
        clear hR u0 u1 u2 u3
        go_wp2_with fail
        refine bodyPost_ret (v := .slice a9 (o.length + 1) c9) (by simp [results, Try.results36, go_sem]) rfl ⟨?_, (hBw.alloc (by omega) _).trans (below_grown (Below.refl _ _) hgrowwz (fun k e => Nat.le_trans (Nat.le_succ _) (HO0.out.lt k e).1) (by simp; omega))⟩
        rw [HR.out, cellsU_snoc, List.length_append, List.length_singleton]
        exact ⟨a9, c9, rfl, own_base hownwz (Nat.le_succ _)⟩

end Go.Proofs.Ytcjeonamebnpfaa
