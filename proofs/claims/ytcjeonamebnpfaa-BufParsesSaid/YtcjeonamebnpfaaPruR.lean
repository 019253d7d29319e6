/-
  The walk of the document's Parse of updates.
-/
import Derived.Test.YtcjeonamebnpfaaPruG
import Derived.Test.YtcjeonamebnpfaaRefG
import Derived.Test.YtcjeonamebnpfaaRef12C
import Derived.Test.YtcjeonamebnpfaaRefS
namespace Go.Proofs.Ytcjeonamebnpfaa
open Go.RowKit
attribute [local go_sem ↓] Go.wp_at_zero Go.wp_at_succ

theorem infoV : (Try.prog.info? 32).map (fun i => (i.zero, i.size, i.bytes)) = some (some (.agg #[.int .u8 0, .string ByteArray.empty, .string ByteArray.empty, .int .u64 0]), 4, 48) := by kernel_rfl
theorem UAt.of (w : World) (t : TypeId) (k : Nat) (key : List UInt8) : UAt (w.alloc (.cells #[.int .u8 k, .string (S key), .string ByteArray.empty, .int .u64 0] t)) w.heap.size ⟨k, key, [], 0⟩ :=
  ⟨by simp, by simp, by simp; rfl, by simp, fun i => by simp, by simp⟩
/-- What stands behind the first question. -/
def RestA (b : UInt8) (key more : List UInt8) (x : Upd) (m : List UInt8) : Prop :=
  (b.toNat = 1 ∧ restU b key more = some (x, m)) ∨ (b.toNat ≠ 1 ∧ x = ⟨b.toNat, key, [], 0⟩ ∧ m = more)

theorem stepU_key {b : UInt8} {r : List UInt8} {key more : List UInt8} {ok : Bool} (h : splitL r = (key, more, ok)) : stepU (b :: r) = if ok then (match restU b key more with | none => none | some (u, m) => if u.check = 0 then some (u, m) else none) else none := by
  show (if (splitL r).2.2 then (match restU b (splitL r).1 (splitL r).2.1 with | none => none | some (u, m) => if u.check = 0 then some (u, m) else none) else none) = _
  rw [h]

set_option maxRecDepth 100000 in
set_option maxHeartbeats 8000000 in
theorem refParseU_any (s0 : List UInt8) (hl : s0.length ≤ 900000) (w : World) :
    Calls Try.prog 68 #[.string (S s0)] w fun e w' => RecRes w.heap.size 32 (recU s0) e w' ∧ Below w.heap.size w w' := by
  obtain ⟨i0, hi, iz0, iz1, iz2⟩ := info_parts infoV
  have HE0 := Lib.hid (fun h : rawU s0 = none => recU_none h)
  have HE1 := Lib.hid (fun (l : List Upd) (h : rawU s0 = some l) => recU_some h)
  generalize recU s0 = P at *
  go_enter Try.func68, Try.ntmps68
  go_wp2_with fail
  go_loopw [0, 4] (fun s v wr => ∃ (t : List UInt8) (acc : List Upd), s = .string (S t) ∧ t.length + acc.length ≤ s0.length ∧ Hid (rawU s0 = (rawU t).map fun l => acc ++ l) ∧ wr.ownsRow w.heap.size 32 4 v acc.length (cellsU acc) ∧ Below w.heap.size w wr) (fun s _ _ => match s with | .string x => x.size | _ => 0)
  case atStart => exact ⟨s0, [], rfl, by simp, Lib.hid (by simp), World.ownsRow_nil _ _ _ _, by go_grown⟩
  case round =>
    obtain ⟨t, acc, rfl, hlen, hR, hown, hB⟩ := hrel
    obtain ⟨av, ac, ea⟩ := own_form hown
    subst ea
    have HO := Lib.hid hown
    cases t with
    | nil =>
      have HP := Lib.hid (HE1.out acc (rawU_end hR.out))
      clear hown hR
      go_wp2_with fail
      refine bodyPost_ret (v := .tuple #[.slice av acc.length ac, .int .i64 0]) (by simp [results, Try.results68, go_sem]) rfl ⟨?_, hB⟩
      rw [HP.out]
      exact ⟨av, ac, rfl, HO.out⟩
    | cons b r =>
      have hb256 := b.toNat_lt
      have hl0 : (S (b :: r)).size = r.length + 1 := by rw [S_size]; rfl
      rw [List.length_cons] at hlen
      have hd1 : (S (b :: r)).extract 1 (r.length + 1) = S r := by rw [S_extract]; simp
      have hs1 := fun W => refSplit_any r (by omega) W
      unfold splitV at hs1
      have hst := fun key more ok => @stepU_key b r key more ok
      have hq1 := (splitL_len r).1
      generalize hp1 : splitL r = p1 at *
      obtain ⟨key, more, ok⟩ := p1
      dsimp only at hs1 hq1
      have HST := Lib.hid (hst key more ok rfl)
      have HS1 := Lib.hid hs1
      clear hst hs1 hp1 hown
      cases ok with
      | false =>
        have HP := Lib.hid (HE0.out (rawU_stop hR.out (by simp) (HST.out.trans rfl)))
        clear HST hR
        go_wp2_with fail
        refine (thread (HS1.out _) w.heap.size w hB hB.size).mono ?_
        rintro e w1 ⟨rfl, hB1, -, -, -, hz1⟩
        go_wp2_with fail
        refine bodyPost_ret (v := .tuple #[.slice none 0 0, .int .i64 4]) (by simp [results, Try.results68, go_sem]) rfl ⟨?_, hB1⟩
        rw [HP.out]
        exact RecRes.none _ _ _ _ _ rfl
      | true =>
        go_wp2_with fail
        refine (thread (HS1.out _) wr.heap.size wr (Below.refl _ _) (Nat.le_refl _)).mono ?_
        rintro e w1 ⟨rfl, hX1, -, -, -, hz1⟩
        have HO1 := Lib.hid (own_below HO.out hX1)
        have hB1 := hB.trans (hX1.mono hB.size)
        clear hX1 HS1
        go_upto_if 31 with (fail)
        have hU0 := UAt.of w1 32 b.toNat key
        have hz0 : w1.heap.size < (w1.alloc (.cells #[.int .u8 b.toNat, .string (S key), .string ByteArray.empty, .int .u64 0] 32)).heap.size := hU0.lt
        have hB10 : Below w1.heap.size w1 (w1.alloc (.cells #[.int .u8 b.toNat, .string (S key), .string ByteArray.empty, .int .u64 0] 32)) := (Below.refl _ _).alloc (Nat.le_refl _) _
        go_cut [6] (fun s wx => ∃ (x : Upd) (m : List UInt8), s = .string (S m) ∧ UAt wx w1.heap.size x ∧ x.Wf ∧ x.kind = b.toNat ∧ m.length ≤ more.length ∧ Hid (RestA b key more x m) ∧ Below w1.heap.size w1 wx)
        case first =>
          have HU0 := Lib.hid hU0
          have HB10 := Lib.hid hB10
          by_cases h1 : b.toNat = 1
          · have h1' : ((b.toNat : Int) == 1) = true := by simp [h1]
            have hre : restU b key more = (if (splitL more).2.2 then some (⟨1, key, (splitL more).1, 0⟩, (splitL more).2.1) else none) := by unfold restU; rw [if_pos h1]
            have hs2 := fun W => refSplit_any more (by omega) W
            unfold splitV at hs2
            have hq2 := (splitL_len more).1
            generalize splitL more = p2 at *
            obtain ⟨val, m2, is⟩ := p2
            dsimp only at hs2 hre hq2
            have HS2 := Lib.hid hs2
            have HRE := Lib.hid hre
            have H1 := Lib.hid h1
            clear hs2 hre h1 hU0 hB10
            cases is with
            | false =>
              have HP := Lib.hid (HE0.out (rawU_stop hR.out (by simp) (HST.out.trans (by rw [HRE.out]; rfl))))
              go_wp2_with fail
              refine (thread (HS2.out _) w1.heap.size w1 HB10.out HB10.out.size).mono ?_
              rintro e w3 ⟨rfl, hX3, -, -, -, hz3⟩
              have hB3 := hB1.trans (hX3.mono hB1.size)
              go_wp2_with fail
              refine bodyPost_ret (v := .tuple #[.slice none 0 0, .int .i64 4]) (by simp [results, Try.results68, go_sem]) rfl ⟨?_, hB3⟩
              rw [HP.out]
              exact RecRes.none _ _ _ _ _ rfl
            | true =>
              go_wp2_with fail
              refine (thread (HS2.out _) (w1.heap.size + 1) _ (Below.refl _ _) (by simp)).mono ?_
              rintro e w3 ⟨rfl, hX3, -, -, -, hz3⟩
              have hU3 := HU0.out.on hX3 (Nat.lt_succ_self _)
              have HB3 := Lib.hid (HB10.out.trans (hX3.mono (Nat.le_succ _)))
              obtain ⟨c0, c1, c2, c3, cf, cl⟩ := hU3
              have cf2 := cf 2
              have HU3 := Lib.hid (UAt.setVal ⟨c0, c1, c2, c3, cf, cl⟩ val)
              clear hX3 cf
              dsimp only at c0 c1 c2 c3
              go_wp2_with fail
              go_meet
              exact ⟨_, m2, rfl, HU3.out, ⟨hb256, by show (0 : Nat) < _; decide⟩, rfl, by omega, Lib.hid (Or.inl ⟨H1.out, by rw [HRE.out]; simp only [H1.out]; rfl⟩), HB3.out.setCell (p := ⟨w1.heap.size, 2, none⟩) (Nat.le_refl _) _⟩
          · have h1' : ((b.toNat : Int) == 1) = false := by simp; omega
            clear hU0 hB10
            go_wp2_with fail
            go_meet
            exact ⟨_, more, rfl, HU0.out, ⟨hb256, by show (0 : Nat) < _; decide⟩, rfl, Nat.le_refl _, Lib.hid (Or.inr ⟨h1, rfl, rfl⟩), HB10.out⟩
        case rest =>
          obtain ⟨x, m, rfl, hU, hwf, hkx, hml, hRA, hBx⟩ := hcut
          obtain ⟨c0, c1, c2, c3, cf, cl⟩ := hU
          have HU := Lib.hid (show UAt wc w1.heap.size x from ⟨c0, c1, c2, c3, cf, cl⟩)
          have cf3 := cf 3
          have HB := Lib.hid hBx
          have HWF := Lib.hid hwf
          have HKX := Lib.hid hkx
          clear hU0 hB10 hz0 hwf hkx hBx cf
          go_upto_if 45 with (fail)
          obtain ⟨wd, hwd⟩ : ∃ wd, wd = wc := ⟨_, rfl⟩
          subst hwd
          go_cut [6] (fun s wx => ∃ (y : Upd) (m' : List UInt8), s = .string (S m') ∧ UAt wx w1.heap.size y ∧ y.Wf ∧ m'.length ≤ more.length ∧ Hid (restU b key more = some (y, m')) ∧ Below w1.heap.size w1 wx)
          case first =>
            by_cases h3 : x.kind = 3
            · have h3' : ((x.kind : Int) == 3) = true := by simp [h3]
              have hb3 : b.toNat = 3 := by rw [← HKX.out]; exact h3
              have hre : restU b key more = (if more.length < 8 then none else some (⟨3, key, [], numL (more.take 8)⟩, more.drop 8)) := by unfold restU; rw [if_neg (by omega), if_pos hb3]
              have hxm : x = ⟨3, key, [], 0⟩ ∧ m = more := by
                rcases hRA.out with ⟨h, _⟩ | ⟨_, h, hm⟩
                · omega
                · rw [hb3] at h; exact ⟨h, hm⟩
              have HRE := Lib.hid hre
              obtain ⟨rfl, rfl⟩ := hxm
              clear hre h3 hb3 hRA
              dsimp only at h3' c0 c1 c2 c3
              by_cases h8 : m.length < 8
              · have h8' : (m.length : Int) < 8 := by omega
                have HP := Lib.hid (HE0.out (rawU_stop hR.out (by simp) (HST.out.trans (by rw [HRE.out, if_pos h8]; rfl))))
                have hB3 := hB1.trans (HB.out.mono hB1.size)
                go_wp2_with fail
                refine bodyPost_ret (v := .tuple #[.slice none 0 0, .int .i64 4]) (by simp [results, Try.results68, go_sem]) rfl ⟨?_, hB3⟩
                rw [HP.out]
                exact RecRes.none _ _ _ _ _ rfl
              · have h8' : ¬ (m.length : Int) < 8 := by omega
                have h8a : (8 : Int) ≤ (m.length : Int) := by omega
                have hx1 : (S m).extract 0 8 = S (m.take 8) := by rw [S_extract]; simp
                have hx2 : (S m).extract 8 m.length = S (m.drop 8) := by rw [S_extract, List.take_of_length_le (by rw [List.length_drop]; omega)]
                have hg := fun W => refGet_any (m.take 8) (by rw [List.length_take]; omega) W
                have hn8 := numL_take m (by omega)
                have hre2 : restU b key m = some (⟨3, key, [], numL (m.take 8)⟩, m.drop 8) := by rw [HRE.out, if_neg h8]
                have hdl : (m.drop 8).length ≤ m.length := by rw [List.length_drop]; omega
                generalize numL (m.take 8) = D at *
                generalize m.take 8 = T8 at *
                have HG := Lib.hid hg
                have HRE2 := Lib.hid hre2
                have HN8 := Lib.hid hn8
                have hz0 : w1.heap.size < wd.heap.size := cl
                clear hg hre2 hn8 h8 c0 c1 c2
                go_wp2_with fail
                refine (thread (HG.out _) wd.heap.size wd (Below.refl _ _) (Nat.le_refl _)).mono ?_
                rintro e w3 ⟨rfl, hX3, hk3, hf3, -, hz3⟩
                have c3 := (hk3 w1.heap.size 3 hz0).trans c3
                have cf3 := (hf3 w1.heap.size 3 hz0).trans cf3
                have HU3 := Lib.hid ((HU.out.on hX3 hz0).setDelta D)
                have HB3 := Lib.hid (HB.out.trans (hX3.mono (by omega)))
                clear hX3 hk3 hf3 HG
                go_wp2_with fail
                go_meet
                exact ⟨_, m.drop 8, rfl, HU3.out, ⟨by show (3 : Nat) < 256; decide, HN8.out⟩, hdl, Lib.hid HRE2.out, HB3.out.setCell (p := ⟨w1.heap.size, 3, none⟩) (Nat.le_refl _) _⟩
            · have h3' : ((x.kind : Int) == 3) = false := by simp; omega
              have hre : restU b key more = some (x, m) := by
                rcases hRA.out with ⟨_, h⟩ | ⟨h1, h, hm⟩
                · exact h
                · rw [HKX.out] at h3
                  unfold restU
                  rw [if_neg h1, if_neg h3, h, hm]
              have HRE := Lib.hid hre
              clear hre h3
              go_wp2_with fail
              go_meet
              exact ⟨x, m, rfl, HU.out, HWF.out, by omega, Lib.hid HRE.out, HB.out⟩
          case rest =>
            obtain ⟨y, m', rfl, hU, hwf, hml', hRE, hBy⟩ := hcut
            obtain ⟨c0, c1, c2, c3, cf, cl⟩ := hU
            have hst : stepU (b :: r) = if (Upd.mk y.kind y.key y.val y.delta).check = 0 then some (y, m') else none := HST.out.trans (by rw [hRE.out]; rfl)
            have HCK := Lib.hid (fun W => refCheck y.kind y.key y.val y.delta hwf.1 hwf.2 W)
            generalize (Upd.mk y.kind y.key y.val y.delta).check = ck at *
            have HB := Lib.hid (hB1.trans (hBy.mono hB1.size))
            have HO2 := Lib.hid (own_below HO1.out hBy)
            have hz2 : w.heap.size ≤ wc.heap.size := HB.out.size
            clear hwf hBy cf hRA HU HKX
            by_cases hc0 : ck = 0
            · have hcb : ((ck : Int) == 0) = true := by simp [hc0]
              have HN := Lib.hid (rawU_more hR.out (by simp) (hst.trans (if_pos hc0)))
              subst hc0
              clear hst hcb
              go_wp2_with fail
              refine (thread (HCK.out _) wc.heap.size wc (Below.refl _ _) (Nat.le_refl _)).mono ?_
              rintro e w4 ⟨rfl, hX4, -, -, -, hz4⟩
              have c0 := kept_cell hX4 c0
              have c1 := kept_cell hX4 c1
              have c2 := kept_cell hX4 c2
              have c3 := kept_cell hX4 c3
              have HO3 := Lib.hid (own_below HO2.out hX4)
              have hB4 := HB.out.trans (hX4.mono hz2)
              have hz := hB4.size
              clear hX4 HCK
              go_wp2_with (at_builtin; go_must (refine wpList_append_own_at _ rfl _ _ 91 rfl w.heap.size 32 i0 (.agg #[.int .u8 0, .string ByteArray.empty, .string ByteArray.empty, .int .u64 0]) 4 48 Try.underlying91 hi iz0 iz1 iz2 rfl (by decide) _ acc.length _ rfl (HO3.out.alloc _) ⟨w4.heap.size, 0, none⟩ 1 1 [.int .u8 y.kind, .string (S y.key), .string (S y.val), .int .u64 y.delta] rfl rfl (cell_four_new _ _ _ _ _ _) (four_oneCell _ _ _ _) (by unfold maxLen; omega) (by omega) (by simp; omega) ?_; intro vz wz hownz hgrowz _ _))
              go_roundw
              (case rel => exact (⟨m', acc ++ [y], rfl, by rw [List.length_append, List.length_singleton]; omega, HN, by rw [cellsU_snoc, List.length_append, List.length_singleton]; exact hownz, below_grown (hB4.alloc hz _) hgrowz (fun k e => (HO3.out.lt k e).1) (by simp; omega)⟩))
              (case measure => simp [S_size]; omega)
            · have hcb : ((ck : Int) == 0) = false := by simp; omega
              have HP := Lib.hid (HE0.out (rawU_stop hR.out (by simp) (hst.trans (if_neg hc0))))
              clear hst hc0
              go_wp2_with fail
              refine (thread (HCK.out _) w.heap.size w HB.out hz2).mono ?_
              rintro e w4 ⟨rfl, hB4, -, -, -, hz4⟩
              go_wp2_with fail
              refine bodyPost_ret (v := .tuple #[.slice none 0 0, .int .i64 4]) (by simp [results, Try.results68, go_sem]) rfl ⟨?_, hB4⟩
              rw [HP.out]
              exact RecRes.none _ _ _ _ _ rfl

end Go.Proofs.Ytcjeonamebnpfaa
