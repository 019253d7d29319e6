/-
  The walk of the document's Parse of updates.
  The walks of buf.Of, buf.Parse, and of the document's Rising and Parse of layer 15.
  The walks of buf.Parse, and of the document's Parse of layer 15.
-/
import Derived.Test.YtlmlmkeomlehmaaZe
import Derived.Test.YtlmlmkeomlehmaaZd
import Derived.Test.YtlmlmkeomlehmaaZa
import Derived.BigQuiet
namespace Go.Proofs.Ytlmlmkeomlehmaa
open Go.RowKit
attribute [local go_sem ↓] Go.wp_at_zero Go.wp_at_succ

theorem infoV : (Try.prog.info? 113).map (fun i => (i.zero, i.size, i.bytes)) = some (some (.agg #[.int .u8 0, .string ByteArray.empty, .string ByteArray.empty, .int .u64 0]), 4, 48) := by kernel_rfl
/-- What stands behind the first question. -/
def RestA (b : UInt8) (key more : List UInt8) (x : Upd) (m : List UInt8) : Prop :=
  (b.toNat = 1 ∧ restU b key more = some (x, m)) ∨ (b.toNat ≠ 1 ∧ x = ⟨b.toNat, key, [], 0⟩ ∧ m = more)

theorem stepU_key {b : UInt8} {r : List UInt8} {key more : List UInt8} {ok : Bool} (h : splitL r = (key, more, ok)) : stepU (b :: r) = if ok then (match restU b key more with | none => none | some (u, m) => if u.check = 0 then some (u, m) else none) else none := by
  show (if (splitL r).2.2 then (match restU b (splitL r).1 (splitL r).2.1 with | none => none | some (u, m) => if u.check = 0 then some (u, m) else none) else none) = _
  rw [h]

set_option maxRecDepth 100000 in
set_option maxHeartbeats 8000000 in
theorem refParseU_any (s0 : List UInt8) (hl : s0.length ≤ 900000) (w : World) :
    Calls Try.prog 99 #[.string (S s0)] w fun e w' => RecRes w.heap.size 113 (recU s0) e w' ∧ Below w.heap.size w w' := by
  obtain ⟨i0, hi, iz0, iz1, iz2⟩ := info_parts infoV
  have HE0 := Lib.hid (fun h : rawU s0 = none => recU_none h)
  have HE1 := Lib.hid (fun (l : List Upd) (h : rawU s0 = some l) => recU_some h)
  generalize recU s0 = P at *
  go_enter Try.func99, Try.ntmps99
  go_wp2_with fail
  go_loopw [0, 4] (fun s v wr => ∃ (t : List UInt8) (acc : List Upd), s = .string (S t) ∧ t.length + acc.length ≤ s0.length ∧ Hid (rawU s0 = (rawU t).map fun l => acc ++ l) ∧ wr.ownsRow w.heap.size 113 4 v acc.length (cellsU acc) ∧ Below w.heap.size w wr) (fun s _ _ => match s with | .string x => x.size | _ => 0)
  case atStart => exact ⟨s0, [], rfl, by simp, Lib.hid (by simp), World.ownsRow_nil _ _ _ _, by go_grown⟩
  case round =>
    obtain ⟨t, acc, rfl, hlen, hR, hown, hB⟩ := hrel
    obtain ⟨av, ac, ea⟩ := own_form hown
    subst ea
    have HO := Lib.hid hown
    cases t with
    | nil =>
      have HP := Lib.hid (HE1.out acc (rawU_end hR.out))
      clear hown hR
      go_wp2_with fail
      refine bodyPost_ret (v := .tuple #[.slice av acc.length ac, .int .i64 0]) (by simp [results, Try.results99, go_sem]) rfl ⟨?_, hB⟩
      rw [HP.out]
      exact ⟨av, ac, rfl, HO.out⟩
    | cons b r =>
      have hb256 := b.toNat_lt
      have hl0 : (S (b :: r)).size = r.length + 1 := by rw [S_size]; rfl
      rw [List.length_cons] at hlen
      have hd1 : (S (b :: r)).extract 1 (r.length + 1) = S r := by rw [S_extract]; simp
      have hs1 := fun W => refSplit_any r (by omega) W
      unfold splitV at hs1
      have hst := fun key more ok => @stepU_key b r key more ok
      have hq1 := (splitL_len r).1
      generalize hp1 : splitL r = p1 at *
      obtain ⟨key, more, ok⟩ := p1
      dsimp only at hs1 hq1
      have HST := Lib.hid (hst key more ok rfl)
      have HS1 := Lib.hid hs1
      clear hst hs1 hp1 hown
      cases ok with
      | false =>
        have HP := Lib.hid (HE0.out (rawU_stop hR.out (by simp) (HST.out.trans rfl)))
        clear HST hR
        go_wp2_with fail
        refine (thread (HS1.out _) w.heap.size w hB hB.size).mono ?_
        rintro e w1 ⟨rfl, hB1, -, -, -, hz1⟩
        go_wp2_with fail
        refine bodyPost_ret (v := .tuple #[.slice none 0 0, .int .i64 4]) (by simp [results, Try.results99, go_sem]) rfl ⟨?_, hB1⟩
        rw [HP.out]
        exact RecRes.none _ _ _ _ _ rfl
      | true =>
        go_wp2_with fail
        refine (thread (HS1.out _) wr.heap.size wr (Below.refl _ _) (Nat.le_refl _)).mono ?_
        rintro e w1 ⟨rfl, hX1, -, -, -, hz1⟩
        have HO1 := Lib.hid (own_below HO.out hX1)
        have hB1 := hB.trans (hX1.mono hB.size)
        clear hX1 HS1
        go_upto_if 31 with (fail)
        have hU0 := UAt.of w1 113 b.toNat key
        have hz0 : w1.heap.size < (w1.alloc (.cells #[.int .u8 b.toNat, .string (S key), .string ByteArray.empty, .int .u64 0] 113)).heap.size := hU0.lt
        have hB10 : Below w1.heap.size w1 (w1.alloc (.cells #[.int .u8 b.toNat, .string (S key), .string ByteArray.empty, .int .u64 0] 113)) := (Below.refl _ _).alloc (Nat.le_refl _) _
        go_cut [6] (fun s wx => ∃ (x : Upd) (m : List UInt8), s = .string (S m) ∧ UAt wx w1.heap.size x ∧ x.Wf ∧ x.kind = b.toNat ∧ m.length ≤ more.length ∧ Hid (RestA b key more x m) ∧ Below w1.heap.size w1 wx)
        case first =>
          have HU0 := Lib.hid hU0
          have HB10 := Lib.hid hB10
          by_cases h1 : b.toNat = 1
          · have h1' : ((b.toNat : Int) == 1) = true := by simp [h1]
            have hre : restU b key more = (if (splitL more).2.2 then some (⟨1, key, (splitL more).1, 0⟩, (splitL more).2.1) else none) := by unfold restU; rw [if_pos h1]
            have hs2 := fun W => refSplit_any more (by omega) W
            unfold splitV at hs2
            have hq2 := (splitL_len more).1
            generalize splitL more = p2 at *
            obtain ⟨val, m2, is⟩ := p2
            dsimp only at hs2 hre hq2
            have HS2 := Lib.hid hs2
            have HRE := Lib.hid hre
            have H1 := Lib.hid h1
            clear hs2 hre h1 hU0 hB10
            cases is with
            | false =>
              have HP := Lib.hid (HE0.out (rawU_stop hR.out (by simp) (HST.out.trans (by rw [HRE.out]; rfl))))
              go_wp2_with fail
              refine (thread (HS2.out _) w1.heap.size w1 HB10.out HB10.out.size).mono ?_
              rintro e w3 ⟨rfl, hX3, -, -, -, hz3⟩
              have hB3 := hB1.trans (hX3.mono hB1.size)
              go_wp2_with fail
              refine bodyPost_ret (v := .tuple #[.slice none 0 0, .int .i64 4]) (by simp [results, Try.results99, go_sem]) rfl ⟨?_, hB3⟩
              rw [HP.out]
              exact RecRes.none _ _ _ _ _ rfl
            | true =>
              go_wp2_with fail
              refine (thread (HS2.out _) (w1.heap.size + 1) _ (Below.refl _ _) (by simp)).mono ?_
              rintro e w3 ⟨rfl, hX3, -, -, -, hz3⟩
              have hU3 := HU0.out.on hX3 (Nat.lt_succ_self _)
              have HB3 := Lib.hid (HB10.out.trans (hX3.mono (Nat.le_succ _)))
              obtain ⟨c0, c1, c2, c3, cf, cl⟩ := hU3
              have cf2 := cf 2
              have HU3 := Lib.hid (UAt.setVal ⟨c0, c1, c2, c3, cf, cl⟩ val)
              clear hX3 cf
              dsimp only at c0 c1 c2 c3
              go_wp2_with fail
              go_meet
              exact ⟨_, m2, rfl, HU3.out, ⟨hb256, by show (0 : Nat) < _; decide⟩, rfl, by omega, Lib.hid (Or.inl ⟨H1.out, by rw [HRE.out]; simp only [H1.out]; rfl⟩), HB3.out.setCell (p := ⟨w1.heap.size, 2, none⟩) (Nat.le_refl _) _⟩
          · have h1' : ((b.toNat : Int) == 1) = false := by simp; omega
            clear hU0 hB10
            go_wp2_with fail
            go_meet
            exact ⟨_, more, rfl, HU0.out, ⟨hb256, by show (0 : Nat) < _; decide⟩, rfl, Nat.le_refl _, Lib.hid (Or.inr ⟨h1, rfl, rfl⟩), HB10.out⟩
        case rest =>
          obtain ⟨x, m, rfl, hU, hwf, hkx, hml, hRA, hBx⟩ := hcut
          obtain ⟨c0, c1, c2, c3, cf, cl⟩ := hU
          have HU := Lib.hid (show UAt wc w1.heap.size x from ⟨c0, c1, c2, c3, cf, cl⟩)
          have cf3 := cf 3
          have HB := Lib.hid hBx
          have HWF := Lib.hid hwf
          have HKX := Lib.hid hkx
          clear hU0 hB10 hz0 hwf hkx hBx cf
          go_upto_if 45 with (fail)
          obtain ⟨wd, hwd⟩ : ∃ wd, wd = wc := ⟨_, rfl⟩
          subst hwd
          go_cut [6] (fun s wx => ∃ (y : Upd) (m' : List UInt8), s = .string (S m') ∧ UAt wx w1.heap.size y ∧ y.Wf ∧ m'.length ≤ more.length ∧ Hid (restU b key more = some (y, m')) ∧ Below w1.heap.size w1 wx)
          case first =>
            by_cases h3 : x.kind = 3
            · have h3' : ((x.kind : Int) == 3) = true := by simp [h3]
              have hb3 : b.toNat = 3 := by rw [← HKX.out]; exact h3
              have hre : restU b key more = (if more.length < 8 then none else some (⟨3, key, [], numL (more.take 8)⟩, more.drop 8)) := by unfold restU; rw [if_neg (by omega), if_pos hb3]
              have hxm : x = ⟨3, key, [], 0⟩ ∧ m = more := by
                rcases hRA.out with ⟨h, _⟩ | ⟨_, h, hm⟩
                · omega
                · rw [hb3] at h; exact ⟨h, hm⟩
              have HRE := Lib.hid hre
              obtain ⟨rfl, rfl⟩ := hxm
              clear hre h3 hb3 hRA
              dsimp only at h3' c0 c1 c2 c3
              by_cases h8 : m.length < 8
              · have h8' : (m.length : Int) < 8 := by omega
                have HP := Lib.hid (HE0.out (rawU_stop hR.out (by simp) (HST.out.trans (by rw [HRE.out, if_pos h8]; rfl))))
                have hB3 := hB1.trans (HB.out.mono hB1.size)
                go_wp2_with fail
                refine bodyPost_ret (v := .tuple #[.slice none 0 0, .int .i64 4]) (by simp [results, Try.results99, go_sem]) rfl ⟨?_, hB3⟩
                rw [HP.out]
                exact RecRes.none _ _ _ _ _ rfl
              · have h8' : ¬ (m.length : Int) < 8 := by omega
                have h8a : (8 : Int) ≤ (m.length : Int) := by omega
                have hx1 : (S m).extract 0 8 = S (m.take 8) := by rw [S_extract]; simp
                have hx2 : (S m).extract 8 m.length = S (m.drop 8) := by rw [S_extract, List.take_of_length_le (by rw [List.length_drop]; omega)]
                have hg := fun W => refGet_any (m.take 8) (by rw [List.length_take]; omega) W
                have hn8 := numL_take m (by omega)
                have hre2 : restU b key m = some (⟨3, key, [], numL (m.take 8)⟩, m.drop 8) := by rw [HRE.out, if_neg h8]
                have hdl : (m.drop 8).length ≤ m.length := by rw [List.length_drop]; omega
                generalize numL (m.take 8) = D at *
                generalize m.take 8 = T8 at *
                have HG := Lib.hid hg
                have HRE2 := Lib.hid hre2
                have HN8 := Lib.hid hn8
                have hz0 : w1.heap.size < wd.heap.size := cl
                clear hg hre2 hn8 h8 c0 c1 c2
                go_wp2_with fail
                refine (thread (HG.out _) wd.heap.size wd (Below.refl _ _) (Nat.le_refl _)).mono ?_
                rintro e w3 ⟨rfl, hX3, hk3, hf3, -, hz3⟩
                have c3 := (hk3 w1.heap.size 3 hz0).trans c3
                have cf3 := (hf3 w1.heap.size 3 hz0).trans cf3
                have HU3 := Lib.hid ((HU.out.on hX3 hz0).setDelta D)
                have HB3 := Lib.hid (HB.out.trans (hX3.mono (by omega)))
                clear hX3 hk3 hf3 HG
                go_wp2_with fail
                go_meet
                exact ⟨_, m.drop 8, rfl, HU3.out, ⟨by show (3 : Nat) < 256; decide, HN8.out⟩, hdl, Lib.hid HRE2.out, HB3.out.setCell (p := ⟨w1.heap.size, 3, none⟩) (Nat.le_refl _) _⟩
            · have h3' : ((x.kind : Int) == 3) = false := by simp; omega
              have hre : restU b key more = some (x, m) := by
                rcases hRA.out with ⟨_, h⟩ | ⟨h1, h, hm⟩
                · exact h
                · rw [HKX.out] at h3
                  unfold restU
                  rw [if_neg h1, if_neg h3, h, hm]
              have HRE := Lib.hid hre
              clear hre h3
              go_wp2_with fail
              go_meet
              exact ⟨x, m, rfl, HU.out, HWF.out, by omega, Lib.hid HRE.out, HB.out⟩
          case rest =>
            obtain ⟨y, m', rfl, hU, hwf, hml', hRE, hBy⟩ := hcut
            obtain ⟨c0, c1, c2, c3, cf, cl⟩ := hU
            have hst : stepU (b :: r) = if (Upd.mk y.kind y.key y.val y.delta).check = 0 then some (y, m') else none := HST.out.trans (by rw [hRE.out]; rfl)
            have HCK := Lib.hid (fun W => refCheck y.kind y.key y.val y.delta hwf.1 hwf.2 W)
            generalize (Upd.mk y.kind y.key y.val y.delta).check = ck at *
            have HB := Lib.hid (hB1.trans (hBy.mono hB1.size))
            have HO2 := Lib.hid (own_below HO1.out hBy)
            have hz2 : w.heap.size ≤ wc.heap.size := HB.out.size
            clear hwf hBy cf hRA HU HKX
            by_cases hc0 : ck = 0
            · have hcb : ((ck : Int) == 0) = true := by simp [hc0]
              have HN := Lib.hid (rawU_more hR.out (by simp) (hst.trans (if_pos hc0)))
              subst hc0
              clear hst hcb
              go_wp2_with fail
              refine (thread (HCK.out _) wc.heap.size wc (Below.refl _ _) (Nat.le_refl _)).mono ?_
              rintro e w4 ⟨rfl, hX4, -, -, -, hz4⟩
              have c0 := kept_cell hX4 c0
              have c1 := kept_cell hX4 c1
              have c2 := kept_cell hX4 c2
              have c3 := kept_cell hX4 c3
              have HO3 := Lib.hid (own_below HO2.out hX4)
              have hB4 := HB.out.trans (hX4.mono hz2)
              have hz := hB4.size
              clear hX4 HCK
              go_wp2_with (at_builtin; go_must (refine wpList_append_own_at _ rfl _ _ 33 rfl w.heap.size 113 i0 (.agg #[.int .u8 0, .string ByteArray.empty, .string ByteArray.empty, .int .u64 0]) 4 48 Try.underlying33 hi iz0 iz1 iz2 rfl (by decide) _ acc.length _ rfl (HO3.out.alloc _) ⟨w4.heap.size, 0, none⟩ 1 1 [.int .u8 y.kind, .string (S y.key), .string (S y.val), .int .u64 y.delta] rfl rfl (cell_four_new _ _ _ _ _ _) (four_oneCell _ _ _ _) (by unfold maxLen; omega) (by omega) (by simp; omega) ?_; intro vz wz hownz hgrowz _ _))
              go_roundw
              (case rel => exact (⟨m', acc ++ [y], rfl, by rw [List.length_append, List.length_singleton]; omega, HN, by rw [cellsU_snoc, List.length_append, List.length_singleton]; exact hownz, below_grown (hB4.alloc hz _) hgrowz (fun k e => (HO3.out.lt k e).1) (by simp; omega)⟩))
              (case measure => simp [S_size]; omega)
            · have hcb : ((ck : Int) == 0) = false := by simp; omega
              have HP := Lib.hid (HE0.out (rawU_stop hR.out (by simp) (hst.trans (if_neg hc0))))
              clear hst hc0
              go_wp2_with fail
              refine (thread (HCK.out _) w.heap.size w HB.out hz2).mono ?_
              rintro e w4 ⟨rfl, hB4, -, -, -, hz4⟩
              go_wp2_with fail
              refine bodyPost_ret (v := .tuple #[.slice none 0 0, .int .i64 4]) (by simp [results, Try.results99, go_sem]) rfl ⟨?_, hB4⟩
              rw [HP.out]
              exact RecRes.none _ _ _ _ _ rfl

end Go.Proofs.Ytlmlmkeomlehmaa

namespace Go.Proofs.Ytlmlmkeomlehmaa
open Go.RowKit
attribute [local go_sem ↓] Go.wp_at_zero Go.wp_at_succ

theorem rising_not {α : Type} {key : α → List UInt8} {l : List α} {j : Nat} (h : ¬ Rising key (l.take j)) : ¬ Rising key l := fun hr => h (hr.sublist (List.take_sublist j l))
theorem rising_one {α : Type} {key : α → List UInt8} (l : List α) : Rising key (l.take 1) := by
  cases l with
  | nil => exact List.Pairwise.nil
  | cons a t => exact List.pairwise_singleton _ _
theorem rising_step {α : Type} {key : α → List UInt8} (l : List α) (q : Nat) (hq : q + 1 < l.length) (h : Rising key (l.take (q + 1))) : Rising key (l.take (q + 2)) ↔ bl (key (l[q]'(by omega))) (key l[q + 1]) = true := by
  rw [show q + 2 = (q + 1) + 1 from rfl, List.take_succ_eq_append_getElem hq]
  constructor
  · intro h2
    have h3 := (List.pairwise_append.1 h2).2.2
    refine h3 (l[q]'(by omega)) ?_ l[q + 1] (List.mem_singleton.2 rfl)
    rw [List.mem_take_iff_getElem]
    exact ⟨q, by omega, rfl⟩
  · intro h2
    refine List.pairwise_append.2 ⟨h, by simp, fun a ha b hb => ?_⟩
    rw [List.mem_singleton] at hb
    subst hb
    obtain ⟨i, hi, rfl⟩ := List.mem_take_iff_getElem.1 ha
    by_cases e : i = q
    · subst e; exact h2
    · have h4 := Rising.lt h (show i < q by omega) (by rw [List.length_take]; omega)
      simp only [List.getElem_take] at h4
      exact bl_trans h4 h2

/-- A buffer, and an error's number. -/
def BfRes (B : Nat) (p : List Upd × Nat) (e : Ending) (w' : World) : Prop :=
  ∃ a c, e = .returned (.tuple #[.agg #[.slice a p.1.length c], .int .i64 p.2]) ∧ w'.ownsRow B 67 4 (.slice a p.1.length c) p.1.length (cellsU p.1)
theorem BfRes.none (B : Nat) (n : Nat) (w' : World) (e : Ending) (he : e = .returned (.tuple #[.agg #[.slice none 0 0], .int .i64 n])) : BfRes B ([], n) e w' := ⟨Option.none, 0, he, World.ownsRow_nil _ _ _ _⟩

/-- What buf.Of makes of updates, and the error's number. -/
def ofU (l : List Upd) : List Upd × Nat := if risingB l then (l, 0) else ([], 2)
theorem ofU_yes {l : List Upd} (h : Rising Upd.key l) : ofU l = (l, 0) := by unfold ofU; rw [if_pos ((risingB_iff l).2 h)]
theorem ofU_no {l : List Upd} (h : ¬ Rising Upd.key l) : ofU l = ([], 2) := by unfold ofU; rw [if_neg (fun k => h ((risingB_iff l).1 k))]

set_option maxRecDepth 100000 in
set_option maxHeartbeats 4000000 in
theorem bufOf_any (ao : Option Addr) (n c : Nat) (l : List Upd) (w : World) (hn : n = l.length) (hl : l.length ≤ 1000000) (hs : SlU w (.slice ao n c) l) :
    Calls Try.prog 97 #[.slice ao n c] w fun e w' => BfRes w.heap.size (ofU l) e w' ∧ Below w.heap.size w w' := by
  subst hn
  have HY := Lib.hid (fun h : Rising Upd.key l => ofU_yes h)
  have HNO := Lib.hid (fun h : ¬ Rising Upd.key l => ofU_no h)
  have HS := Lib.hid hs
  generalize ofU l = R at *
  obtain ⟨ao', c', e', hs0, -⟩ := hs
  simp only [Value.slice.injEq] at e'
  obtain ⟨rfl, -, rfl⟩ := e'
  have HS0 := Lib.hid hs0
  clear hs0
  go_enter Try.func97, Try.ntmps97
  go_wp2_with fail
  go_loopw [4] (fun i wr => ∃ q : Nat, i = .int .i64 (q + 1 : Nat) ∧ (q + 1 ≤ l.length ∨ q = 0) ∧ Hid (Rising Upd.key (l.take (q + 1))) ∧ wr.cell? ⟨w.heap.size, 0, none⟩ = some (.slice none 0 0) ∧ wr.frozen? ⟨w.heap.size, 0, none⟩ = false ∧ w.heap.size < wr.heap.size ∧ Below w.heap.size w wr) (fun i _ => l.length - (intOf i).toNat)
  case atStart => exact ⟨0, rfl, Or.inr rfl, Lib.hid (rising_one l), by simp, by simp, by simp, by go_grown⟩
  case round =>
    obtain ⟨q, rfl, hj, hR, hp, hpf, hsz, hB⟩ := hrel
    have hq0 : (0 : Int) ≤ (q : Int) := Int.natCast_nonneg _
    rw [show ((q + 1 : Nat) : Int) = (q : Int) + 1 from rfl]
    by_cases hjl : q + 1 < l.length
    · have hj1 : (q : Int) + 1 < (l.length : Int) := by omega
      have hst := Lib.hid (rising_step l q hjl hR.out)
      have hno : Hid (¬ Rising Upd.key (l.take (q + 2)) → R = ([], 2)) := Lib.hid fun h => HNO.out (rising_not h)
      obtain ⟨b, off, rfl, hb, -, t1, -, -⟩ := SlAt.cells4 HS0.out (q + 1) hjl
      obtain ⟨b', off', e', hb', -, t1', -, -⟩ := SlAt.cells4 HS0.out q (by omega)
      simp only [Option.some.injEq, Addr.mk.injEq] at e'
      obtain ⟨rfl, rfl, -⟩ := e'
      have q1 := (cell_below hB hb _).trans t1
      have q2 := (cell_below hB hb _).trans t1'
      have hq1 : (q : Int) < (l.length : Int) := by omega
      have hw1 : IntKind.i64.wrap (q : Int) = (q : Int) := IntWalk.i64_in _ (by omega)
      have hw2 : IntKind.i64.wrap ((q : Int) + 1 - 1) = (q : Int) := by rw [show (q : Int) + 1 - 1 = (q : Int) by omega]; exact hw1
      clear t1 t1'
      cases hlt : bl l[q].key l[q + 1].key with
      | true =>
        have hR2 := Lib.hid (hst.out.2 hlt)
        clear hst hno
        have hlt' : Op.bytesLess l[q].key l[q + 1].key = true := hlt
        clear hlt
        generalize l[q + 1] = u at *
        generalize l[q] = u' at *
        go_wp2_with fail
        go_quiet (fail)
        go_wp2_with fail
        have hBn : Below wr.heap.size wr (wr.drewN nq) := below_drewN (Below.refl _ _) _
        exact ⟨⟨q + 1, by go_num, Or.inl (by omega), hR2, hp, hpf, hsz, hB.trans (hBn.mono (by omega))⟩, by simp [intOf]; omega⟩
      | false =>
        have hbf := Lib.hid (hno.out (fun h => by have h2 := hst.out.1 h; rw [hlt] at h2; exact absurd h2 (by simp)))
        clear hst hno
        have hlt' : Op.bytesLess l[q].key l[q + 1].key = false := hlt
        clear hlt
        generalize l[q + 1] = u at *
        generalize l[q] = u' at *
        go_wp2_with fail
        go_quiet (fail)
        go_wp2_with fail
        have hBn : Below w.heap.size w (wr.drewN nq) := below_drewN hB _
        refine bodyPost_ret (v := .tuple #[.agg #[.slice none 0 0], .int .i64 2]) (by simp [results, Try.results97, go_sem, hp]) rfl ⟨?_, ?_⟩
        · rw [hbf.out]
          exact BfRes.none _ _ _ _ rfl
        · exact hBn.setCell (p := ⟨w.heap.size, 0, none⟩) (Nat.le_refl _) _
    · have hjn : ¬ (q : Int) + 1 < (l.length : Int) := by omega
      have hbt := Lib.hid (HY.out (by have h := hR.out; rwa [List.take_of_length_le (by omega)] at h))
      have HS2 := Lib.hid (HS.out.kept hB (Nat.le_refl _))
      go_wp2_with fail
      refine (thread (cloneU _ l wr HS2.out hl) wr.heap.size wr (Below.refl _ _) (Nat.le_refl _)).mono ?_
      rintro e w1 ⟨⟨v1, rfl, hown1⟩, hX1, hk1, hf1, -, hz1⟩
      obtain ⟨a1, c1, e1⟩ := own_form hown1
      subst e1
      have p1 := (hk1 w.heap.size 0 hsz).trans hp
      have pf1 := (hf1 w.heap.size 0 hsz).trans hpf
      have hB1 := hB.trans (hX1.mono (by omega))
      have HO1 := Lib.hid hown1
      clear hk1 hf1 hX1 hp hpf hown1
      go_wp2_with fail
      refine bodyPost_ret (v := .tuple #[.agg #[.slice a1 l.length c1], .int .i64 0]) (by simp [results, Try.results97, go_sem, p1]) rfl ⟨?_, ?_⟩
      · rw [hbt.out]
        exact ⟨a1, c1, rfl, own_base (ownsRow_setCell_other (a := ⟨w.heap.size, 0, none⟩) HO1.out (fun e => by have h2 : wr.heap.size ≤ w.heap.size := (HO1.out.lt _ e).1; omega) _) (by omega)⟩
      · exact hB1.setCell (p := ⟨w.heap.size, 0, none⟩) (Nat.le_refl _) _

set_option maxRecDepth 100000 in
set_option maxHeartbeats 4000000 in
theorem refRising_any (ao : Option Addr) (c : Nat) (l : List Upd) (w : World) (hl : l.length ≤ 1000000) (hs : SlAt Upd.cells 4 w ao l) :
    Calls Try.prog 61 #[.slice ao l.length c] w fun e w' => e = .returned (.bool (risingB l)) ∧ Below w.heap.size w w' := by
  have HBO := Lib.hid (risingB_iff l)
  have HS0 := Lib.hid hs
  generalize risingB l = bo at *
  clear hs
  go_enter Try.func61, Try.ntmps61
  go_wp2_with fail
  go_loopw [3] (fun i wr => ∃ q : Nat, i = .int .i64 (q + 1 : Nat) ∧ (q + 1 ≤ l.length ∨ q = 0) ∧ Hid (Rising Upd.key (l.take (q + 1))) ∧ Below w.heap.size w wr) (fun i _ => l.length - (intOf i).toNat)
  case atStart => exact ⟨0, rfl, Or.inr rfl, Lib.hid (rising_one l), Below.refl _ _⟩
  case round =>
    obtain ⟨q, rfl, hj, hR, hB⟩ := hrel
    have hq0 : (0 : Int) ≤ (q : Int) := Int.natCast_nonneg _
    rw [show ((q + 1 : Nat) : Int) = (q : Int) + 1 from rfl]
    by_cases hjl : q + 1 < l.length
    · have hj1 : (q : Int) + 1 < (l.length : Int) := by omega
      have hst := Lib.hid (rising_step l q hjl hR.out)
      have hno : Hid (¬ Rising Upd.key (l.take (q + 2)) → bo = false) := Lib.hid fun h => by
        cases hbb : bo with
        | false => rfl
        | true => exact absurd (HBO.out.1 hbb) (rising_not h)
      obtain ⟨b, off, rfl, hb, -, t1, -, -⟩ := SlAt.cells4 HS0.out (q + 1) hjl
      obtain ⟨b', off', e', hb', -, t1', -, -⟩ := SlAt.cells4 HS0.out q (by omega)
      simp only [Option.some.injEq, Addr.mk.injEq] at e'
      obtain ⟨rfl, rfl, -⟩ := e'
      have q1 := (cell_below hB hb _).trans t1
      have q2 := (cell_below hB hb _).trans t1'
      have hq1 : (q : Int) < (l.length : Int) := by omega
      have hw1 : IntKind.i64.wrap (q : Int) = (q : Int) := IntWalk.i64_in _ (by omega)
      have hw2 : IntKind.i64.wrap ((q : Int) + 1 - 1) = (q : Int) := by rw [show (q : Int) + 1 - 1 = (q : Int) by omega]; exact hw1
      clear t1 t1'
      cases hlt : bl l[q].key l[q + 1].key with
      | true =>
        have hR2 := Lib.hid (hst.out.2 hlt)
        clear hst hno
        have hlt' : Op.bytesLess l[q].key l[q + 1].key = true := hlt
        clear hlt
        generalize l[q + 1] = u at *
        generalize l[q] = u' at *
        go_wp2_with fail
        go_quiet (fail)
        go_wp2_with fail
        exact ⟨⟨q + 1, by go_num, Or.inl (by omega), hR2, below_drewN hB _⟩, by simp [intOf]; omega⟩
      | false =>
        have hbf := Lib.hid (hno.out (fun h => by have h2 := hst.out.1 h; rw [hlt] at h2; exact absurd h2 (by simp)))
        clear hst hno
        have hlt' : Op.bytesLess l[q].key l[q + 1].key = false := hlt
        clear hlt
        generalize l[q + 1] = u at *
        generalize l[q] = u' at *
        go_wp2_with fail
        go_quiet (fail)
        go_wp2_with fail
        exact bodyPost_ret (v := .bool false) (by simp [results, Try.results61, go_sem]) rfl ⟨by rw [hbf.out], below_drewN hB _⟩
    · have hjn : ¬ (q : Int) + 1 < (l.length : Int) := by omega
      have hbt := Lib.hid (HBO.out.2 (by have h := hR.out; rwa [List.take_of_length_le (by omega)] at h))
      go_wp2_with fail
      exact bodyPost_ret (v := .bool true) (by simp [results, Try.results61, go_sem]) rfl ⟨by rw [hbt.out], hB⟩

end Go.Proofs.Ytlmlmkeomlehmaa

namespace Go.Proofs.Ytlmlmkeomlehmaa
open Go.RowKit
attribute [local go_sem ↓] Go.wp_at_zero Go.wp_at_succ

theorem parseU_bad {s : List UInt8} (h : (recU s).2 = 4) : parseU s = ([], 4) := by rw [parseU_of, if_neg (by omega), h]
theorem parseU_wild {s : List UInt8} (h : (recU s).2 = 0) (k : risingB (recU s).1 = false) : parseU s = ([], 4) := by rw [parseU_of, if_pos h, if_neg (by simp [k])]
theorem parseU_good {s : List UInt8} (h : (recU s).2 = 0) (k : risingB (recU s).1 = true) : parseU s = ((recU s).1, 0) := by rw [parseU_of, if_pos h, if_pos k]

abbrev BufBox : Obj := .cells #[.slice none 0 0] 29

set_option maxRecDepth 100000 in
set_option maxHeartbeats 4000000 in
theorem bufParse_any (s0 : List UInt8) (hl : s0.length ≤ 900000) (w : World) :
    Calls Try.prog 64 #[.string (S s0)] w fun e w' => BfRes w.heap.size (parseU s0) e w' ∧ Below w.heap.size w w' := by
  have hrp := fun W => recParse_any s0 hl W
  have h2 := recU_two s0
  have hal := recU_all s0
  have hb := Lib.hid (@parseU_bad s0)
  have hw := Lib.hid (@parseU_wild s0)
  have hg := Lib.hid (@parseU_good s0)
  generalize recU s0 = Q at *
  generalize parseU s0 = P at *
  obtain ⟨L, n⟩ := Q
  dsimp only at h2 hal
  have HRP := Lib.hid hrp
  have hL : L.length ≤ 900000 := by omega
  clear hrp hal
  rcases h2 with rfl | ⟨rfl, rfl⟩
  · have hof := Lib.hid (ofU_yes (l := L))
    have hon := Lib.hid (ofU_no (l := L))
    cases hr : risingB L with
    | true =>
      have HP := Lib.hid (hg.out rfl hr)
      have HF := Lib.hid (hof.out ((risingB_iff L).1 hr))
      clear hb hw hg hr hof hon
      go_enter Try.func64, Try.ntmps64
      go_wp2_with fail
      refine (thread (HRP.out _) (w.heap.size + 1) (w.alloc BufBox) (Below.refl _ _) (by simp)).mono ?_
      rintro e w1 ⟨⟨a1, c1, rfl, ho1⟩, hB1, -, -, -, hz1⟩
      dsimp only at ho1
      have hof1 := bufOf_any a1 L.length c1 L w1 rfl (by omega) (SlU.of_own ho1).2
      rw [HF.out] at hof1
      have HOF := Lib.hid hof1
      clear ho1 hof1 HRP
      have hz0 : w.heap.size < w1.heap.size := by omega
      go_wp2_with fail
      refine (thread HOF.out w1.heap.size w1 (Below.refl _ _) (Nat.le_refl _)).mono ?_
      rintro e w2 ⟨⟨a2, c2, rfl, ho2⟩, hX2, -, -, -, hz2⟩
      dsimp only at ho2
      have hB2 := hB1.trans (hX2.mono hz1)
      have p2 : w2.cell? ⟨w.heap.size, 0, none⟩ = some (.slice none 0 0) := (hB2.cell (p := ⟨w.heap.size, 0, none⟩) (Nat.lt_succ_self _)).trans (by simp)
      have pf2 : w2.frozen? ⟨w.heap.size, 0, none⟩ = false := (hB2.frozen (p := ⟨w.heap.size, 0, none⟩) (Nat.lt_succ_self _)).trans (by simp)
      have HO2 := Lib.hid ho2
      have HB2 := Lib.hid ((Below.alloc (Below.refl _ w) (Nat.le_refl _) BufBox).trans (hB2.mono (Nat.le_succ _)))
      have hlt2 : w.heap.size < w2.heap.size := by omega
      clear ho2 hB1 hB2 hX2 HOF
      go_wp2_with fail
      have pz := cell_past (.cells #[.slice a2 L.length c2] 29) (show (w2.setCell ⟨w.heap.size, 0, none⟩ (.slice a2 L.length c2)).cell? ⟨w.heap.size, 0, none⟩ = some (.slice a2 L.length c2) from World.cell?_setCell_same w2 _ _ p2)
      refine bodyPost_ret (v := .tuple #[.agg #[.slice a2 L.length c2], .int .i64 0]) (by simp [results, Try.results64, go_sem, pz]) rfl ⟨?_, ?_⟩
      · rw [HP.out]
        exact ⟨a2, c2, rfl, own_base ((ownsRow_setCell_other (a := ⟨w.heap.size, 0, none⟩) HO2.out (fun e => by have h : w1.heap.size ≤ w.heap.size := (HO2.out.lt _ e).1; omega) _).alloc _) (by omega)⟩
      · exact ((HB2.out).setCell (p := ⟨w.heap.size, 0, none⟩) (Nat.le_refl _) _).alloc (by rw [World.size_setCell]; omega) _
    | false =>
      have HP := Lib.hid (hw.out rfl hr)
      have HF := Lib.hid (hon.out (fun h => by rw [(risingB_iff L).2 h] at hr; exact absurd hr (by simp)))
      clear hb hw hg hr hof hon
      go_enter Try.func64, Try.ntmps64
      go_wp2_with fail
      refine (thread (HRP.out _) (w.heap.size + 1) (w.alloc BufBox) (Below.refl _ _) (by simp)).mono ?_
      rintro e w1 ⟨⟨a1, c1, rfl, ho1⟩, hB1, -, -, -, hz1⟩
      dsimp only at ho1
      have hof1 := bufOf_any a1 L.length c1 L w1 rfl (by omega) (SlU.of_own ho1).2
      rw [HF.out] at hof1
      have HOF := Lib.hid hof1
      clear ho1 hof1 HRP
      have hz0 : w.heap.size < w1.heap.size := by omega
      go_wp2_with fail
      refine (thread HOF.out w1.heap.size w1 (Below.refl _ _) (Nat.le_refl _)).mono ?_
      rintro e w2 ⟨⟨a2, c2, rfl, ho2⟩, hX2, -, -, -, hz2⟩
      have hB2 := hB1.trans (hX2.mono hz1)
      have p2 : w2.cell? ⟨w.heap.size, 0, none⟩ = some (.slice none 0 0) := (hB2.cell (p := ⟨w.heap.size, 0, none⟩) (Nat.lt_succ_self _)).trans (by simp)
      have pf2 : w2.frozen? ⟨w.heap.size, 0, none⟩ = false := (hB2.frozen (p := ⟨w.heap.size, 0, none⟩) (Nat.lt_succ_self _)).trans (by simp)
      have HB2 := Lib.hid ((Below.alloc (Below.refl _ w) (Nat.le_refl _) BufBox).trans (hB2.mono (Nat.le_succ _)))
      have hlt2 : w.heap.size < w2.heap.size := by omega
      clear ho2 hB1 hB2 hX2 HOF
      go_wp2_with fail
      have pz := fun o => cell_past o (show (w2.setCell ⟨w.heap.size, 0, none⟩ (.slice none 0 0)).cell? ⟨w.heap.size, 0, none⟩ = some (.slice none 0 0) from World.cell?_setCell_same w2 _ _ p2)
      refine bodyPost_ret (v := .tuple #[.agg #[.slice none 0 0], .int .i64 4]) (by simp [results, Try.results64, go_sem, pz]) rfl ⟨?_, ?_⟩
      · rw [HP.out]
        exact BfRes.none _ _ _ _ rfl
      · exact ((HB2.out).setCell (p := ⟨w.heap.size, 0, none⟩) (Nat.le_refl _) _).alloc (by rw [World.size_setCell]; omega) _
  · have HP := Lib.hid (hb.out rfl)
    clear hb hw hg
    go_enter Try.func64, Try.ntmps64
    go_wp2_with fail
    refine (thread (HRP.out _) (w.heap.size + 1) (w.alloc BufBox) (Below.refl _ _) (by simp)).mono ?_
    rintro e w1 ⟨⟨a1, c1, rfl, ho1⟩, hB1, -, -, -, hz1⟩
    have p2 : w1.cell? ⟨w.heap.size, 0, none⟩ = some (.slice none 0 0) := (hB1.cell (p := ⟨w.heap.size, 0, none⟩) (Nat.lt_succ_self _)).trans (by simp)
    have pf2 : w1.frozen? ⟨w.heap.size, 0, none⟩ = false := (hB1.frozen (p := ⟨w.heap.size, 0, none⟩) (Nat.lt_succ_self _)).trans (by simp)
    have HB2 := Lib.hid ((Below.alloc (Below.refl _ w) (Nat.le_refl _) BufBox).trans (hB1.mono (Nat.le_succ _)))
    clear ho1 hB1 HRP
    go_wp2_with fail
    refine bodyPost_ret (v := .tuple #[.agg #[.slice none 0 0], .int .i64 4]) (by simp [results, Try.results64, go_sem, p2]) rfl ⟨?_, ?_⟩
    · rw [HP.out]
      exact BfRes.none _ _ _ _ rfl
    · exact (HB2.out).setCell (p := ⟨w.heap.size, 0, none⟩) (Nat.le_refl _) _

theorem SlU.of_row {w : World} {B n : Nat} {E : TypeId} {v : Value} {l : List Upd} (h : w.ownsRow B E 4 v n (cellsU l)) : l.length = n ∧ SlU w v l := by
  have hn := h.1
  rw [cellsU_len] at hn
  have hn' : l.length = n := by omega
  subst hn'
  refine ⟨rfl, ?_⟩
  rcases ownsRow_open h with ⟨rfl, h0, -⟩ | ⟨g, cap, cur, rfl, -, hr, h3, h4, h5, h6⟩
  · obtain rfl := List.eq_nil_of_length_eq_zero h0
    exact SlU.nil w
  · refine ⟨_, cap, rfl, Or.inr ⟨g, 0, rfl, hr.lt, fun i hi j x hx => ?_⟩, h3, by unfold maxLen at h4; omega, fun e => by simp at e⟩
    have hj : j < 4 := (List.getElem?_eq_some_iff.1 hx).1
    have e := cellsU_get l i hi j x hx
    rw [hr.cell, Nat.zero_add, ← e, ← h6, List.getElem?_take, if_pos (by omega)]

set_option maxRecDepth 100000 in
set_option maxHeartbeats 4000000 in
theorem refBufParse_any (s0 : List UInt8) (hl : s0.length ≤ 900000) (w : World) :
    Calls Try.prog 67 #[.string (S s0)] w fun e w' => RecRes w.heap.size 113 (parseU s0) e w' ∧ Below w.heap.size w w' := by
  have hrp := fun W => refParseU_any s0 hl W
  have h2 := recU_two s0
  have hal := recU_all s0
  have hb := Lib.hid (@parseU_bad s0)
  have hw := Lib.hid (@parseU_wild s0)
  have hg := Lib.hid (@parseU_good s0)
  generalize recU s0 = Q at *
  generalize parseU s0 = P at *
  obtain ⟨L, n⟩ := Q
  dsimp only at h2 hal
  have HRP := Lib.hid hrp
  have hL : L.length ≤ 900000 := by omega
  clear hrp hal
  rcases h2 with rfl | ⟨rfl, rfl⟩
  · cases hr : risingB L with
    | true =>
      have HP := Lib.hid (hg.out rfl hr)
      have HRI := Lib.hid (fun ao c W h => refRising_any ao c L W (by omega) h)
      rw [hr] at HRI
      clear hb hw hg hr
      go_enter Try.func67, Try.ntmps67
      go_wp2_with fail
      refine (thread (HRP.out _) w.heap.size w (by go_grown) (by go_grown)).mono ?_
      rintro e w1 ⟨⟨a1, c1, rfl, ho1⟩, hB1, -, -, -, hz1⟩
      dsimp only at ho1
      obtain ⟨x, y, ee, hsa, -⟩ := (SlU.of_row ho1).2
      simp only [Value.slice.injEq] at ee
      obtain ⟨rfl, -, rfl⟩ := ee
      have HO1 := Lib.hid ho1
      have HRI2 := Lib.hid (HRI.out a1 c1 w1 hsa)
      clear ho1 hsa HRI HRP
      go_wp2_with fail
      refine (thread HRI2.out w1.heap.size w1 (Below.refl _ _) (Nat.le_refl _)).mono ?_
      rintro e w2 ⟨rfl, hX2, -, -, -, hz2⟩
      have hB2 := hB1.trans (hX2.mono hz1)
      have HO2 := Lib.hid (own_below HO1.out hX2)
      go_wp2_with fail
      refine bodyPost_ret (v := .tuple #[.slice a1 L.length c1, .int .i64 0]) (by simp [results, Try.results67, go_sem]) rfl ⟨?_, hB2⟩
      rw [HP.out]
      exact ⟨a1, c1, rfl, HO2.out⟩
    | false =>
      have HP := Lib.hid (hw.out rfl hr)
      have HRI := Lib.hid (fun ao c W h => refRising_any ao c L W (by omega) h)
      rw [hr] at HRI
      clear hb hw hg hr
      go_enter Try.func67, Try.ntmps67
      go_wp2_with fail
      refine (thread (HRP.out _) w.heap.size w (by go_grown) (by go_grown)).mono ?_
      rintro e w1 ⟨⟨a1, c1, rfl, ho1⟩, hB1, -, -, -, hz1⟩
      dsimp only at ho1
      obtain ⟨x, y, ee, hsa, -⟩ := (SlU.of_row ho1).2
      simp only [Value.slice.injEq] at ee
      obtain ⟨rfl, -, rfl⟩ := ee
      have HRI2 := Lib.hid (HRI.out a1 c1 w1 hsa)
      clear ho1 hsa HRI HRP
      go_wp2_with fail
      refine (thread HRI2.out w1.heap.size w1 (Below.refl _ _) (Nat.le_refl _)).mono ?_
      rintro e w2 ⟨rfl, hX2, -, -, -, hz2⟩
      have hB2 := hB1.trans (hX2.mono hz1)
      go_wp2_with fail
      refine bodyPost_ret (v := .tuple #[.slice none 0 0, .int .i64 4]) (by simp [results, Try.results67, go_sem]) rfl ⟨?_, hB2⟩
      rw [HP.out]
      exact RecRes.none _ _ _ _ _ rfl
  · have HP := Lib.hid (hb.out rfl)
    clear hb hw hg
    go_enter Try.func67, Try.ntmps67
    go_wp2_with fail
    refine (thread (HRP.out _) w.heap.size w (by go_grown) (by go_grown)).mono ?_
    rintro e w1 ⟨⟨a1, c1, rfl, ho1⟩, hB1, -, -, -, hz1⟩
    clear ho1 HRP
    go_wp2_with fail
    refine bodyPost_ret (v := .tuple #[.slice none 0 0, .int .i64 4]) (by simp [results, Try.results67, go_sem]) rfl ⟨?_, hB1⟩
    rw [HP.out]
    exact RecRes.none _ _ _ _ _ rfl

end Go.Proofs.Ytlmlmkeomlehmaa
