/-
  The walk of rec.first.
  The walk of rec.Parse.
  The walks of the document's Get of a number, and of its On of a value.
  The walk of the document's Split.
  The walk of the document's Parse of updates.
  The walks of buf.Of, buf.Parse, and of the document's Rising and Parse of layer 15.
-/
import Derived.Test.YtafciefjlkdecaaGreatZd
import Derived.Test.YtafciefjlkdecaaGreatZc
import Derived.Test.YtafciefjlkdecaaGreatZa
import Derived.BigRegion
import Derived.Deep.RegionLawGrows
import Derived.Deep.DeepCutAuto
import Derived.Deep.CutBlock
import Derived.BigQuiet
import Derived.Deep.DrawnRows
import Derived.Test.YtafciefjlkdecaaGreatZb
namespace Go.Proofs.YtafciefjlkdecaaGreat
open Go.RowKit
attribute [local go_sem ↓] Go.wp_at_zero Go.wp_at_succ

/-- What rec.first tells. -/
def FirstRes : Option (Upd × List UInt8) → Ending → Prop
  | some p, e => e = .returned (.tuple #[updV p.1, .string (S p.2), .bool true])
  | none, e => ∃ (x : Upd) (y : List UInt8), e = .returned (.tuple #[updV x, .string (S y), .bool false])

theorem read_byte (aw : Option Addr) (cw : Nat) (b : UInt8) (r : List UInt8) (w : World) (hs : IntsW w aw [(1, b.toNat)]) (hr : r.length ≤ 1000000) :
    Calls Tryz.prog 114 #[.slice aw 1 cw, .string (S (b :: r))] w fun e w' => (∃ ao c, e = .returned (.tuple #[.slice ao 1 c, .string (S r), .bool true]) ∧ NumsW w' ao [(1, b.toNat)]) ∧ Below w.heap.size w w' := by
  have hb := b.toNat_lt
  have h := read_ok aw cw [(1, b.toNat)] r w hs (wide1 1 _ (by decide) (by decide)) (fun p hp => by rw [List.mem_singleton] at hp; rw [hp]; exact hb) (by simp) hr
  have e : wtext [(1, b.toNat)] ++ r = b :: r := by simp [wtext, le]
  rw [e] at h
  exact h
theorem read_eight (aw : Option Addr) (cw : Nat) (s : List UInt8) (w : World) (h8 : 8 ≤ s.length) (hs : IntsW w aw [(8, numL (s.take 8))]) (hr : s.length ≤ 1000000) :
    Calls Tryz.prog 114 #[.slice aw 1 cw, .string (S s)] w fun e w' => (∃ ao c, e = .returned (.tuple #[.slice ao 1 c, .string (S (s.drop 8)), .bool true]) ∧ NumsW w' ao [(8, numL (s.take 8))]) ∧ Below w.heap.size w w' := by
  have hl : (s.take 8).length = 8 := by rw [List.length_take]; omega
  have h := read_ok aw cw [(8, numL (s.take 8))] (s.drop 8) w hs (wide1 8 _ (by decide) (by decide)) (fun p hp => by rw [List.mem_singleton] at hp; rw [hp]; exact numL_take s h8) (by simp) (by rw [List.length_drop]; omega)
  have e : wtext [(8, numL (s.take 8))] ++ s.drop 8 = s := by
    have := le_numL (s.take 8)
    rw [hl] at this
    simp only [wtext, List.flatMap_cons, List.flatMap_nil, List.append_nil]
    rw [this, List.take_append_drop]
  rw [e] at h
  exact h

theorem intsW_at (w : World) (b : Nat) (hb : w.heap.size = b) (c : Array Value) (e : TypeId) (ps : List (Nat × Nat)) (hc : c.toList = ps.map fun p => .int .i64 p.1) : IntsW (w.alloc (.cells c e (0, 0))) (some ⟨b, 0, none⟩) ps := by
  subst hb
  exact intsW_new w c e (0, 0) ps hc

abbrev ResBox : Obj := .cells #[.int .u8 0, .string ByteArray.empty, .string ByteArray.empty, .int .u64 0] 39

/-- What the middle of rec.first leaves. -/
def RestIs : Option (Upd × List UInt8) → Upd → List UInt8 → Bool → Prop
  | some p, x, m, o => o = true ∧ x = p.1 ∧ m = p.2
  | none, _, _, o => o = false

set_option maxRecDepth 100000 in
set_option maxHeartbeats 4000000 in
theorem first_nil (w : World) :
    Calls Tryz.prog 176 #[.string (S [])] w fun e w' => FirstRes (stepU []) e ∧ Below w.heap.size w w' := by
  have hr := read_short (some ⟨w.heap.size + 1, 0, none⟩) 1 [(1, 0)] [] _ (intsW_at (w.alloc ResBox) _ (by simp) #[.int .i64 1] 3 [(1, 0)] rfl) (wide1 1 0 (by decide) (by decide)) (by simp) (by decide)
  go_enter Tryz.func176, Tryz.ntmps176
  go_wp2_with (go_at_call 114; refine (hr).mono ?_; rintro e w' ⟨rfl, rfl⟩)
  refine bodyPost_ret (v := .tuple #[updV ⟨0, [], [], 0⟩, .string (S []), .bool false]) (by simp [results, Tryz.results176, go_sem, updV]; rfl) rfl ⟨⟨_, _, rfl⟩, by go_grown⟩

set_option maxRecDepth 100000 in
set_option maxHeartbeats 8000000 in
theorem first_cons (b : UInt8) (r : List UInt8) (hl : r.length ≤ 900000) (w : World) :
    Calls Tryz.prog 176 #[.string (S (b :: r))] w fun e w' => FirstRes (stepU (b :: r)) e ∧ Below w.heap.size w w' := by
  have hr := read_byte (some ⟨w.heap.size + 1, 0, none⟩) 1 b r _ (intsW_at (w.alloc ResBox) _ (by simp) #[.int .i64 1] 3 [(1, b.toNat)] rfl) (by omega)
  have hb256 := b.toNat_lt
  have hs1 := fun W => split_any r (by omega) W
  unfold splitV at hs1
  have hst : stepU (b :: r) = if (splitL r).2.2 then (match restU b (splitL r).1 (splitL r).2.1 with | none => none | some (u, m) => if u.check = 0 then some (u, m) else none) else none := rfl
  have hq1 := (splitL_len r).1
  generalize splitL r = p1 at *
  obtain ⟨key, more, ok⟩ := p1
  dsimp only at hs1 hst hq1
  have HS1 := Lib.hid hs1
  have HST := Lib.hid hst
  have HR := Lib.hid hr
  clear hs1 hst hr
  go_enter Tryz.func176, Tryz.ntmps176
  go_wp2_with fail
  refine (thread HR.out (w.heap.size + 1) (w.alloc ResBox) (by go_grown) (by go_grown)).mono ?_
  rintro e w1 ⟨⟨ao, c, rfl, hN⟩, hB1, -, -, -, hz1⟩
  obtain ⟨bN, oN, rfl, hbN, hcN⟩ := hN.at (by simp)
  have hc0 := hcN 0 (by simp) 0 _ rfl
  simp only [Nat.mul_one, Nat.add_zero, List.getElem_cons_zero] at hc0
  clear hcN hN HR
  have hbm : ((b.toNat : Int) % 256) = (b.toNat : Int) := by omega
  go_wp2_with fail
  refine (thread (HS1.out _) w1.heap.size w1 (by go_grown) (by go_grown)).mono ?_
  rintro e w2 ⟨rfl, hX2, hk2, hf2, hs2, hz2⟩
  have hu1 : w1.heap.size < w2.heap.size := by simp at hs2; omega
  have hU : UAt w2 w1.heap.size ⟨b.toNat, [], [], 0⟩ := ⟨(hk2 w1.heap.size 0 (by simp)).trans (by simp), (hk2 w1.heap.size 1 (by simp)).trans (by simp; rfl), (hk2 w1.heap.size 2 (by simp)).trans (by simp; rfl), (hk2 w1.heap.size 3 (by simp)).trans (by simp), fun i => (hf2 w1.heap.size i (by simp)).trans (by simp), hu1⟩
  have hBx := hB1.trans (hX2.mono hz1)
  have hR : UAt w2 w.heap.size ⟨0, [], [], 0⟩ := UAt.on (UAt.new w 39) (hBx.mono (Nat.le_refl _)) (Nat.lt_succ_self _)
  have hB2 : Below w.heap.size w w2 := (Below.alloc (Below.refl _ w) (Nat.le_refl _) ResBox).trans (hBx.mono (Nat.le_succ _))
  have hne : w1.heap.size ≠ w.heap.size := by omega
  clear hk2 hf2 hs2 hX2 hBx hB1 hc0
  have hUk := (hU.setKey key)
  have hRk := hR.far (p := ⟨w1.heap.size, 1, none⟩) hne (.string (S key))
  have hBk := hB2.setCell (p := ⟨w1.heap.size, 1, none⟩) (by show w.heap.size ≤ w1.heap.size; omega) (.string (S key))
  have hzk : w1.heap.size < (w2.setCell ⟨w1.heap.size, 1, none⟩ (.string (S key))).heap.size := by rw [World.size_setCell]; exact hu1
  cases ok with
  | false =>
    have hst2 : stepU (b :: r) = none := HST.out.trans rfl
    have HST2 := Lib.hid hst2
    have HBK := Lib.hid hBk
    obtain ⟨r0, r1, r2, r3, rf, -⟩ := hR
    obtain ⟨-, u1, -, -, uf, -⟩ := hU
    have u1f := uf 1
    have rf0 := rf 0
    have rf1 := rf 1
    have rf2 := rf 2
    have rf3 := rf 3
    clear hst2 HST hUk hRk hzk hBk uf rf
    go_wp2_with fail
    refine bodyPost_ret (v := .tuple #[updV ⟨0, [], [], 0⟩, .string (S []), .bool false]) (by simp [results, Tryz.results176, go_sem, updV, r0, r1, r2, r3]; rfl) rfl ⟨?_, ?_⟩
    · rw [HST2.out]
      exact ⟨_, _, rfl⟩
    · exact ((((HBK.out).setCell (p := ⟨w.heap.size, 0, none⟩) (Nat.le_refl _) _).setCell (p := ⟨w.heap.size, 1, none⟩) (Nat.le_refl _) _).setCell (p := ⟨w.heap.size, 2, none⟩) (Nat.le_refl _) _).setCell (p := ⟨w.heap.size, 3, none⟩) (Nat.le_refl _) _
  | true =>
    have hst2 : stepU (b :: r) = (match restU b key more with | none => none | some (u, m) => if u.check = 0 then some (u, m) else none) := HST.out.trans rfl
    have HST2 := Lib.hid hst2
    obtain ⟨u0, u1, -, -, uf, -⟩ := hU
    have u1f := uf 1
    dsimp only at u0
    clear hst2 HST uf
    go_upto_region 8 with (fail)
    go_upto_block 0 with (fail)
    generalize w2.setCell ⟨w1.heap.size, 1, none⟩ (.string (S key)) = W at *
    go_cut [0, 6] (fun s t wx => ∃ (x : Upd) (m : List UInt8) (o : Bool), s = .string (S m) ∧ t = .bool o ∧ UAt wx w1.heap.size x ∧ UAt wx w.heap.size ⟨0, [], [], 0⟩ ∧ x.Wf ∧ RestIs (restU b key more) x m o ∧ Below w.heap.size w wx)
    case first =>
      have HBK := Lib.hid hBk
      have HRK := Lib.hid hRk
      have HUK := Lib.hid hUk
      obtain ⟨k0, k1, k2, k3, kf, -⟩ := hUk
      have k2f := kf 2
      have k3f := kf 3
      dsimp only at k0
      clear hBk hRk kf k1 u0 u1 u1f hB2 hR
      by_cases h1 : b.toNat = 1
      · have h1' : ((b.toNat : Int) == 1) = true := by simp [h1]
        have hre : restU b key more = (if (splitL more).2.2 then some (⟨1, key, (splitL more).1, 0⟩, (splitL more).2.1) else none) := by unfold restU; rw [if_pos h1]
        have hs2 := fun W => split_any more (by omega) W
        unfold splitV at hs2
        generalize splitL more = p2 at *
        obtain ⟨val, m2, is⟩ := p2
        dsimp only at hs2 hre
        have HS2 := Lib.hid hs2
        have HRE := Lib.hid hre
        have H1 := Lib.hid h1
        clear hs2 hre h1
        go_wp2_with fail
        refine (thread (HS2.out _) W.heap.size W (Below.refl _ _) (Nat.le_refl _)).mono ?_
        rintro e w3 ⟨rfl, hX3, hk3, hf3, -, hz3⟩
        have k2 := (hk3 w1.heap.size 2 hzk).trans k2
        have k2f := (hf3 w1.heap.size 2 hzk).trans k2f
        have hU3 := (HUK.out.on hX3 hzk)
        have hR3 := (HRK.out.on hX3 (by omega))
        have HB3 := Lib.hid (HBK.out.trans (hX3.mono (by omega)))
        have HU3 := Lib.hid (hU3.setVal val)
        have HR3 := Lib.hid (hR3.far (p := ⟨w1.heap.size, 2, none⟩) hne (.string (S val)))
        clear hU3 hR3 hX3 hk3 hf3 k0 k3 k3f
        go_wp2_with fail
        go_meet
        refine ⟨_, m2, is, rfl, rfl, HU3.out, HR3.out, ⟨hb256, by show (0 : Nat) < _; decide⟩, ?_, HB3.out.setCell (p := ⟨w1.heap.size, 2, none⟩) (by show w.heap.size ≤ w1.heap.size; omega) _⟩
        rw [HRE.out]
        cases is with
        | true => exact ⟨rfl, by simp only [H1.out], rfl⟩
        | false => exact rfl
      · have h1' : ((b.toNat : Int) == 1) = false := by simp; omega
        by_cases h3 : b.toNat = 3
        · have h3' : ((b.toNat : Int) == 3) = true := by simp [h3]
          have hre : restU b key more = (if more.length < 8 then none else some (⟨3, key, [], numL (more.take 8)⟩, more.drop 8)) := by unfold restU; rw [if_neg h1, if_pos h3]
          have H3 := Lib.hid h3
          by_cases h8 : more.length < 8
          · rw [if_pos h8] at hre
            have HRE := Lib.hid hre
            have hr := read_short (some ⟨W.heap.size, 0, none⟩) 1 [(8, 0)] more _ (intsW_at W _ rfl #[.int .i64 8] 3 [(8, 0)] rfl) (wide1 8 0 (by decide) (by decide)) (by simp) (by simpa [sumW] using h8)
            have HRD := Lib.hid hr
            clear hre hr h8 h3 h1
            go_wp2_with (go_at_call 114; refine (HRD.out).mono ?_; rintro e w' ⟨rfl, rfl⟩)
            go_meet
            exact ⟨_, [], false, rfl, rfl, HUK.out.on ((Below.refl _ W).alloc (Nat.le_refl _) _) hzk, HRK.out.on ((Below.refl _ W).alloc (Nat.le_refl _) _) (by omega), ⟨hb256, by show (0 : Nat) < _; decide⟩, by rw [HRE.out]; exact rfl, HBK.out.alloc (by omega) _⟩
          · rw [if_neg h8] at hre
            have HRE := Lib.hid hre
            have hr := read_eight (some ⟨W.heap.size, 0, none⟩) 1 more _ (by omega) (intsW_at W _ rfl #[.int .i64 8] 3 [(8, numL (more.take 8))] rfl) (by omega)
            have HN8 := Lib.hid (numL_take more (by omega))
            generalize numL (more.take 8) = D at *
            generalize more.drop 8 = rest at *
            have HRD := Lib.hid hr
            clear hre hr h3 h1
            go_wp2_with fail
            refine (thread HRD.out W.heap.size W (by go_grown) (by go_grown)).mono ?_
            rintro e w3 ⟨⟨ao3, c3', rfl, hN⟩, hX3, -, -, -, hz3⟩
            obtain ⟨b3, o3, rfl, hb3, hcN⟩ := hN.at (by simp)
            have n0 := hcN 0 (by simp) 0 _ rfl
            simp only [Nat.mul_one, Nat.add_zero, List.getElem_cons_zero] at n0
            have hU3 := (HUK.out.on hX3 hzk)
            have hR3 := (HRK.out.on hX3 (by omega))
            have k3 := hU3.c3
            have k3f := hU3.free 3
            dsimp only at k3
            have HB3 := Lib.hid (HBK.out.trans (hX3.mono (by omega)))
            have HU3 := Lib.hid (hU3.setDelta D)
            have HR3 := Lib.hid (hR3.far (p := ⟨w1.heap.size, 3, none⟩) hne (.int .u64 D))
            clear hU3 hR3 hX3 hcN hN k0 k2 k2f
            go_wp2_with fail
            go_meet
            refine ⟨_, rest, true, rfl, rfl, HU3.out, HR3.out, ⟨hb256, HN8.out⟩, ?_, HB3.out.setCell (p := ⟨w1.heap.size, 3, none⟩) (by show w.heap.size ≤ w1.heap.size; omega) _⟩
            rw [HRE.out]
            exact ⟨rfl, by simp only [H3.out], rfl⟩
        · have h3' : ((b.toNat : Int) == 3) = false := by simp; omega
          have HRE := Lib.hid (show restU b key more = some (⟨b.toNat, key, [], 0⟩, more) by unfold restU; rw [if_neg h1, if_neg h3])
          go_wp2_with fail
          go_meet
          exact ⟨_, more, true, rfl, rfl, HUK.out, HRK.out, ⟨hb256, by show (0 : Nat) < _; decide⟩, by rw [HRE.out]; exact ⟨rfl, rfl, rfl⟩, HBK.out⟩
    case rest =>
      obtain ⟨x, m, o, rfl, rfl, hUx, hRx, hwf, hRI, hBx⟩ := hcut
      have HWF := Lib.hid hwf
      have HB := Lib.hid hBx
      obtain ⟨x0, x1, x2, x3, -, hxl⟩ := hUx
      obtain ⟨r0, r1, r2, r3, rf, hrl⟩ := hRx
      have rf0 := rf 0
      have rf1 := rf 1
      have rf2 := rf 2
      have rf3 := rf 3
      dsimp only at r0 r1 r2 r3
      clear hUk hRk hBk hzk u0 u1 u1f rf hbm
      cases o with
      | false =>
        have hst3 : stepU (b :: r) = none := by
          rw [HST2.out]
          cases hr : restU b key more with
          | none => rfl
          | some p => rw [hr] at hRI; exact absurd hRI.1 (by simp)
        have HST3 := Lib.hid hst3
        clear hst3 hRI hwf hBx
        go_wp2_with fail
        go_big_region
        all_goals
          go_wp2_with fail
          refine bodyPost_ret (v := .tuple #[updV x, .string (S m), .bool false]) (by simp [results, Tryz.results176, go_sem, updV, r0, r1, r2, r3]) rfl ⟨?_, ?_⟩
          · rw [HST3.out]
            exact ⟨_, _, rfl⟩
          · first | exact ((((HB.out).setCell (p := ⟨w.heap.size, 0, none⟩) (Nat.le_refl _) _).setCell (p := ⟨w.heap.size, 1, none⟩) (Nat.le_refl _) _).setCell (p := ⟨w.heap.size, 2, none⟩) (Nat.le_refl _) _).setCell (p := ⟨w.heap.size, 3, none⟩) (Nat.le_refl _) _ | exact below_drew' (((((HB.out).setCell (p := ⟨w.heap.size, 0, none⟩) (Nat.le_refl _) _).setCell (p := ⟨w.heap.size, 1, none⟩) (Nat.le_refl _) _).setCell (p := ⟨w.heap.size, 2, none⟩) (Nat.le_refl _) _).setCell (p := ⟨w.heap.size, 3, none⟩) (Nat.le_refl _) _)
      | true =>
        have hst3 : stepU (b :: r) = if (Upd.mk x.kind x.key x.val x.delta).check = 0 then some (x, m) else none := by
          rw [HST2.out]
          cases hr : restU b key more with
          | none => rw [hr] at hRI; exact absurd hRI (by simp [RestIs])
          | some p => rw [hr] at hRI; obtain ⟨-, rfl, rfl⟩ := hRI; rfl
        have HST3 := Lib.hid hst3
        have HCK := Lib.hid (fun W => chk x.kind x.key x.val x.delta HWF.out.1 HWF.out.2 W)
        generalize (Upd.mk x.kind x.key x.val x.delta).check = ck at *
        clear hRI hwf hBx
        by_cases hc0 : ck = 0
        · have hcb : ((ck : Int) == 0) = true := by simp [hc0]
          have HST4 := Lib.hid (show stepU (b :: r) = some (x, m) by rw [hst3, if_pos hc0])
          clear hst3 HST3 hc0
          go_wp2_with fail
          go_region_law (first | (go_simp; go_at_call 38; refine (HCK.out _).mono ?_; rintro e w4 ⟨rfl, hb4⟩; have y0 := kept_cell hb4 (cell_drew x0); have y1 := kept_cell hb4 (cell_drew x1); have y2 := kept_cell hb4 (cell_drew x2); have y3 := kept_cell hb4 (cell_drew x3); have z0 := kept_cell hb4 (cell_drew r0); have z1 := kept_cell hb4 (cell_drew r1); have z2 := kept_cell hb4 (cell_drew r2); have z3 := kept_cell hb4 (cell_drew r3); have zf0 := (hb4.frozen (p := ⟨w.heap.size, 0, none⟩) hrl).trans rf0; have zf1 := (hb4.frozen (p := ⟨w.heap.size, 1, none⟩) hrl).trans rf1; have zf2 := (hb4.frozen (p := ⟨w.heap.size, 2, none⟩) hrl).trans rf2; have zf3 := (hb4.frozen (p := ⟨w.heap.size, 3, none⟩) hrl).trans rf3; have hB4 := (below_drew' HB.out).trans (hb4.mono HB.out.size); clear hb4))
          all_goals
            go_wp2_with fail
            refine bodyPost_ret (v := .tuple #[updV x, .string (S m), .bool true]) (by simp [results, Tryz.results176, go_sem, updV, z0, z1, z2, z3]) rfl ⟨?_, ?_⟩
            · rw [HST4.out]
              exact rfl
            · exact (((hB4.setCell (p := ⟨w.heap.size, 0, none⟩) (Nat.le_refl _) _).setCell (p := ⟨w.heap.size, 1, none⟩) (Nat.le_refl _) _).setCell (p := ⟨w.heap.size, 2, none⟩) (Nat.le_refl _) _).setCell (p := ⟨w.heap.size, 3, none⟩) (Nat.le_refl _) _
        · have hcb : ((ck : Int) == 0) = false := by simp; omega
          have HST4 := Lib.hid (show stepU (b :: r) = none by rw [hst3, if_neg hc0])
          clear hst3 HST3 hc0
          go_wp2_with fail
          go_region_law (first | (go_simp; go_at_call 38; refine (HCK.out _).mono ?_; rintro e w4 ⟨rfl, hb4⟩; have y0 := kept_cell hb4 (cell_drew x0); have y1 := kept_cell hb4 (cell_drew x1); have y2 := kept_cell hb4 (cell_drew x2); have y3 := kept_cell hb4 (cell_drew x3); have z0 := kept_cell hb4 (cell_drew r0); have z1 := kept_cell hb4 (cell_drew r1); have z2 := kept_cell hb4 (cell_drew r2); have z3 := kept_cell hb4 (cell_drew r3); have zf0 := (hb4.frozen (p := ⟨w.heap.size, 0, none⟩) hrl).trans rf0; have zf1 := (hb4.frozen (p := ⟨w.heap.size, 1, none⟩) hrl).trans rf1; have zf2 := (hb4.frozen (p := ⟨w.heap.size, 2, none⟩) hrl).trans rf2; have zf3 := (hb4.frozen (p := ⟨w.heap.size, 3, none⟩) hrl).trans rf3; have hB4 := (below_drew' HB.out).trans (hb4.mono HB.out.size); clear hb4))
          all_goals
            go_wp2_with fail
            refine bodyPost_ret (v := .tuple #[updV x, .string (S m), .bool false]) (by simp [results, Tryz.results176, go_sem, updV, z0, z1, z2, z3]) rfl ⟨?_, ?_⟩
            · rw [HST4.out]
              exact ⟨_, _, rfl⟩
            · exact (((hB4.setCell (p := ⟨w.heap.size, 0, none⟩) (Nat.le_refl _) _).setCell (p := ⟨w.heap.size, 1, none⟩) (Nat.le_refl _) _).setCell (p := ⟨w.heap.size, 2, none⟩) (Nat.le_refl _) _).setCell (p := ⟨w.heap.size, 3, none⟩) (Nat.le_refl _) _

/-- The update at the head of bytes. -/
theorem first_any (s : List UInt8) (hl : s.length ≤ 900000) (w : World) :
    Calls Tryz.prog 176 #[.string (S s)] w fun e w' => FirstRes (stepU s) e ∧ Below w.heap.size w w' := by
  cases s with
  | nil => exact first_nil w
  | cons b r => exact first_cons b r (by rw [List.length_cons] at hl; omega) w

end Go.Proofs.YtafciefjlkdecaaGreat

namespace Go.Proofs.YtafciefjlkdecaaGreat
open Go.RowKit
attribute [local go_sem ↓] Go.wp_at_zero Go.wp_at_succ

/-- Updates, and an error's number. -/
def RecRes (B : Nat) (E : TypeId) (p : List Upd × Nat) (e : Ending) (w' : World) : Prop :=
  ∃ a c, e = .returned (.tuple #[.slice a p.1.length c, .int .i64 p.2]) ∧ w'.ownsRow B E 4 (.slice a p.1.length c) p.1.length (cellsU p.1)
theorem RecRes.none (B : Nat) (E : TypeId) (n : Nat) (w' : World) (e : Ending) (he : e = .returned (.tuple #[.slice none 0 0, .int .i64 n])) : RecRes B E ([], n) e w' := ⟨Option.none, 0, he, World.ownsRow_nil _ _ _ _⟩
theorem recU_none {s : List UInt8} (h : rawU s = none) : recU s = ([], 4) := by simp [recU, h]
theorem recU_some {s : List UInt8} {l : List Upd} (h : rawU s = some l) : recU s = (l, 0) := by simp [recU, h]
theorem cell_four_at' (w : World) (b : Nat) (hb : w.heap.size = b) (x y z u : Value) (t : TypeId) : ∀ j v, [x, y, z, u][j]? = some v → (w.alloc (.cells #[x, y, z, u] t)).cell? ((⟨b, 0, none⟩ : Addr).add j) = some v := by
  subst hb
  exact cell_four_new w x y z u t

set_option maxRecDepth 100000 in
set_option maxHeartbeats 4000000 in
theorem recParse_any (s0 : List UInt8) (hl : s0.length ≤ 900000) (w : World) :
    Calls Tryz.prog 154 #[.string (S s0)] w fun e w' => RecRes w.heap.size 39 (recU s0) e w' ∧ Below w.heap.size w w' := by
  obtain ⟨i0, hi, iz0, iz1, iz2⟩ := info_parts infoU
  have HE0 := Lib.hid (fun h : rawU s0 = none => recU_none h)
  have HE1 := Lib.hid (fun (l : List Upd) (h : rawU s0 = some l) => recU_some h)
  generalize recU s0 = P at *
  go_enter Tryz.func154, Tryz.ntmps154
  go_wp2_with fail
  go_loopw [0, 4] (fun s v wr => ∃ (t : List UInt8) (acc : List Upd), s = .string (S t) ∧ t.length + acc.length ≤ s0.length ∧ Hid (rawU s0 = (rawU t).map fun l => acc ++ l) ∧ wr.ownsRow w.heap.size 39 4 v acc.length (cellsU acc) ∧ Below w.heap.size w wr) (fun s _ _ => match s with | .string x => x.size | _ => 0)
  case atStart => exact ⟨s0, [], rfl, by simp, Lib.hid (by simp), World.ownsRow_nil _ _ _ _, by go_grown⟩
  case round =>
    obtain ⟨t, acc, rfl, hlen, hR, hown, hB⟩ := hrel
    obtain ⟨av, ac, ea⟩ := own_form hown
    subst ea
    have HO := Lib.hid hown
    cases t with
    | nil =>
      have HP := Lib.hid (HE1.out acc (rawU_end hR.out))
      clear hown hR
      go_wp2_with fail
      refine bodyPost_ret (v := .tuple #[.slice av acc.length ac, .int .i64 0]) (by simp [results, Tryz.results154, go_sem]) rfl ⟨?_, hB⟩
      rw [HP.out]
      exact ⟨av, ac, rfl, HO.out⟩
    | cons b r =>
      have hl0 : (S (b :: r)).size = r.length + 1 := by rw [S_size]; rfl
      rw [List.length_cons] at hlen
      have hfa := fun W => first_any (b :: r) (by rw [List.length_cons]; omega) W
      clear hown
      cases hst : stepU (b :: r) with
      | none =>
        rw [hst] at hfa
        have HFA := Lib.hid hfa
        have HP := Lib.hid (HE0.out (rawU_stop hR.out (by simp) hst))
        clear hfa hst hR
        go_wp2_with fail
        refine (thread (HFA.out _) wr.heap.size wr (by go_grown) (by go_grown)).mono ?_
        rintro e w1 ⟨⟨x, y, rfl⟩, hX1, -, -, -, hz1⟩
        have hB1 := hB.trans (hX1.mono hB.size)
        have hz2 : w.heap.size ≤ w1.heap.size := hB1.size
        simp only [updV]
        clear hX1
        go_wp2_with fail
        refine bodyPost_ret (v := .tuple #[.slice none 0 0, .int .i64 4]) (by simp [results, Tryz.results154, go_sem]) rfl ⟨?_, hB1.alloc hz2 _⟩
        rw [HP.out]
        exact RecRes.none _ _ _ _ _ rfl
      | some p =>
        obtain ⟨u, m⟩ := p
        rw [hst] at hfa
        have HFA := Lib.hid (fun W => (hfa W).mono (fun e w' (h : FirstRes (some (u, m)) e ∧ Below W.heap.size W w') => (⟨h.1, h.2⟩ : e = .returned (.tuple #[.agg #[.int .u8 u.kind, .string (S u.key), .string (S u.val), .int .u64 u.delta], .string (S m), .bool true]) ∧ Below W.heap.size W w')))
        have HN := Lib.hid (rawU_more hR.out (by simp) hst)
        have hml := stepU_len hst
        rw [List.length_cons] at hml
        clear hfa hst hR
        go_wp2_with fail
        refine (thread (HFA.out _) wr.heap.size wr (by go_grown) (by go_grown)).mono ?_
        rintro e w1 ⟨rfl, hX1, -, -, -, hz1⟩
        have HO1 := Lib.hid (own_below HO.out hX1)
        have hB1 := hB.trans (hX1.mono hB.size)
        have hz := hB1.size
        clear hX1 HFA
        go_wp2_with (at_builtin; go_must (refine wpList_append_own_at _ rfl _ _ 101 rfl w.heap.size 39 i0 (.agg #[.int .u8 0, .string ByteArray.empty, .string ByteArray.empty, .int .u64 0]) 4 48 Tryz.underlying101 hi iz0 iz1 iz2 rfl (by decide) _ acc.length _ rfl ((HO1.out.alloc _).alloc _) ⟨w1.heap.size + 1, 0, none⟩ 1 1 [.int .u8 u.kind, .string (S u.key), .string (S u.val), .int .u64 u.delta] rfl rfl (cell_four_at' _ _ (by simp) _ _ _ _ _) (four_oneCell _ _ _ _) (by unfold maxLen; omega) (by omega) (by simp; omega) ?_; intro vz wz hownz hgrowz _ _))
        go_roundw
        (case rel => exact (⟨m, acc ++ [u], rfl, by rw [List.length_append, List.length_singleton]; omega, HN, by rw [cellsU_snoc, List.length_append, List.length_singleton]; exact hownz, below_grown ((hB1.alloc hz _).alloc (by simp; omega) _) hgrowz (fun k e => (HO1.out.lt k e).1) (by simp; omega)⟩))
        (case measure => simp [S_size]; omega)

end Go.Proofs.YtafciefjlkdecaaGreat

namespace Go.Proofs.YtafciefjlkdecaaGreat
open Go.RowKit

set_option maxHeartbeats 1000000 in
theorem refGet_any (v : List UInt8) (hv : v.length ≤ 8) (w : World) :
    Calls Tryz.prog 84 #[.string (S v)] w fun e w' => e = .returned (.int .u64 (numL v : Nat)) ∧ Below w.heap.size w w' := by
  have hw0 : IntKind.i64.wrap ((v.length : Int) - 1) = (v.length : Int) - 1 := IntWalk.i64_in _ (by omega)
  go_enter Tryz.func84, Tryz.ntmps84
  go_wp2_with fail
  go_loopw [3, 4] (fun n i wr => ∃ j : Nat, j ≤ v.length ∧ i = .int .i64 ((j : Int) - 1) ∧ n = .int .u64 (numL (v.drop j) : Nat) ∧ Below w.heap.size w wr) (fun _ i _ => (intOf i + 1).toNat)
  case atStart => exact ⟨v.length, Nat.le_refl _, rfl, by rw [List.drop_length]; rfl, Below.refl _ _⟩
  case round =>
    obtain ⟨j, hj, rfl, rfl, hB⟩ := hrel
    rcases j with _ | q
    · rw [show ((0 : Nat) : Int) - 1 = -1 from rfl]
      go_wp2_with fail
      go_ret
      exact ⟨rfl, hB⟩
    · rw [show ((q + 1 : Nat) : Int) - 1 = (q : Int) by omega]
      have hq : q < v.length := by omega
      have hq0 : (0 : Int) ≤ (q : Int) := by omega
      have hq1 : (q : Int) < (v.length : Int) := by omega
      have hqw : IntKind.i64.wrap ((q : Int) - 1) = (q : Int) - 1 := IntWalk.i64_in _ (by omega)
      have hd : numL (v.drop q) = v[q].toNat + 256 * numL (v.drop (q + 1)) := by rw [List.drop_eq_getElem_cons hq]; rfl
      have hb : numL (v.drop q) < 18446744073709551616 := by
        have h1 := numL_lt (v.drop q)
        rw [List.length_drop] at h1
        have h2 : 256 ^ (v.length - q) ≤ 256 ^ 8 := Nat.pow_le_pow_right (by decide) (by omega)
        have h3 : (256 : Nat) ^ 8 = 18446744073709551616 := by decide
        omega
      have Hd := Lib.hid hd
      have Hb := Lib.hid hb
      clear hd hb
      go_wp2_with fail
      refine ⟨⟨q, by omega, rfl, ?_, hB⟩, by simp [intOf]⟩
      rw [Hd.out]
      have h1 := Hd.out
      have h2 := Hb.out
      generalize numL (v.drop (q + 1)) = N at *
      generalize v[q].toNat = b at *
      congr 1
      simp only [IntKind.wrap_u64]
      omega
theorem refOn_len (v : List UInt8) (there : Bool) : (if there then v else []).length ≤ v.length := by cases there <;> simp
set_option maxRecDepth 100000 in
set_option maxHeartbeats 2000000 in
theorem refOn_any (v : List UInt8) (there : Bool) (kd : Nat) (key val : List UInt8) (dl : Nat) (hk : kd < 256) (hd : dl < 18446744073709551616) (w : World) :
    Calls Tryz.prog 49 #[.string (S v), .bool there, .agg #[.int .u8 kd, .string (S key), .string (S val), .int .u64 dl]] w fun e w' => e = .returned (onV v there ⟨kd, key, val, dl⟩) ∧ Below w.heap.size w w' := by
  have hkd : (kd : Int) < 256 := by omega
  by_cases h1 : kd = 1
  · subst h1
    unfold onV
    rw [onL_put _ _ _ rfl]
    go_enter Tryz.func49, Tryz.ntmps49
    go_wp2_with fail
    go_ret2
    exact ⟨rfl, by go_grown⟩
  by_cases h2 : kd = 2
  · subst h2
    unfold onV
    rw [onL_del _ _ _ rfl]
    go_enter Tryz.func49, Tryz.ntmps49
    go_wp2_with fail
    go_ret2
    exact ⟨rfl, by go_grown⟩
  have g1 : ¬ (kd : Int) = 1 := by omega
  have g2 : ¬ (kd : Int) = 2 := by omega
  have b1 : ((kd : Int) == 1) = false := by simpa using g1
  have b2 : ((kd : Int) == 2) = false := by simpa using g2
  by_cases h3 : kd = 3
  · subst h3
    clear b1 b2 g1 g2
    cases there with
    | false =>
      have hdm : dl % 18446744073709551616 = dl := Nat.mod_eq_of_lt hd
      have hput := fun w => put_any dl hd 8 (by decide) (by decide) w
      unfold onV
      rw [onL_add0 _ _ rfl]
      simp only [hdm]
      have hg : ∀ w, Calls Tryz.prog 84 #[.string ⟨#[]⟩] w fun e w' => e = .returned (.int .u64 0) ∧ Below w.heap.size w w' := fun w => refGet_any [] (by decide) w
      have hwd : IntKind.u64.wrap (dl : Int) = (dl : Int) := by rw [IntKind.wrap_u64]; omega
      clear hdm
      go_enter Tryz.func49, Tryz.ntmps49
      go_wp2_with fail
      refine (thread (hg _) w.heap.size w (by go_grown) (by go_grown)).mono ?_
      rintro e w1 ⟨rfl, hB1, hk1, -, -, hz1⟩
      have p3 := (hk1 w.heap.size 3 (by simp)).trans (by simp [go_sem]; rfl)
      clear hk1 hg
      go_wp2_with fail
      refine (thread (hput _) w.heap.size w (by go_grown) (by go_grown)).mono ?_
      rintro e w2 ⟨rfl, hB2, -, -, -, -⟩
      go_wp2_with fail
      go_ret2
      exact ⟨rfl, hB2⟩
    | true =>
      by_cases h8 : v.length = 8
      · have hsum := u64_sum (numL v) dl
        unfold onV
        rw [onL_add8 _ _ rfl h8]
        have hput := fun w => put_any ((numL v + dl) % 18446744073709551616) (mod64_lt _) 8 (by decide) (by decide) w
        have hg := fun w => refGet_any v (by omega) w
        have h8' : (v.length : Int) = 8 := by omega
        have h8n : ((v.length : Int) != 8) = false := by simp [h8']
        generalize (numL v + dl) % 18446744073709551616 = N at *
        generalize numL v = M at *
        clear h8'
        go_enter Tryz.func49, Tryz.ntmps49
        go_wp2_with fail
        refine (thread (hg _) w.heap.size w (by go_grown) (by go_grown)).mono ?_
        rintro e w1 ⟨rfl, hB1, hk1, -, -, hz1⟩
        have p3 := (hk1 w.heap.size 3 (by simp)).trans (by simp [go_sem]; rfl)
        clear hk1 hg
        go_wp2_with fail
        refine (thread (hput _) w.heap.size w (by go_grown) (by go_grown)).mono ?_
        rintro e w2 ⟨rfl, hB2, -, -, -, -⟩
        go_wp2_with fail
        go_ret2
        exact ⟨rfl, hB2⟩
      · unfold onV
        rw [onL_add _ _ rfl h8]
        have h8n : ((v.length : Int) != 8) = true := by simp; omega
        go_enter Tryz.func49, Tryz.ntmps49
        go_wp2_with fail
        go_ret2
        exact ⟨rfl, by go_grown⟩
  · have g3 : ¬ (kd : Int) = 3 := by omega
    have b3 : ((kd : Int) == 3) = false := by simpa using g3
    have b3' : ((kd : Int) != 3) = true := by simpa using g3
    unfold onV
    rw [onL_other _ _ _ h1 h2 h3]
    cases there with
    | false =>
      go_enter Tryz.func49, Tryz.ntmps49
      go_wp2_with fail
      go_ret2
      exact ⟨rfl, by go_grown⟩
    | true =>
      go_enter Tryz.func49, Tryz.ntmps49
      go_wp2_with fail
      go_ret2
      exact ⟨rfl, by go_grown⟩

end Go.Proofs.YtafciefjlkdecaaGreat

namespace Go.Proofs.YtafciefjlkdecaaGreat
open Go.RowKit

set_option maxRecDepth 100000 in
set_option maxHeartbeats 1000000 in
theorem refSplit_any (s : List UInt8) (hs : s.length ≤ 1000000) (w : World) : Calls Tryz.prog 60 #[.string (S s)] w fun e w' => e = .returned (splitV s) ∧ Below w.heap.size w w' := by
  cases s with
  | nil =>
    go_enter Tryz.func60, Tryz.ntmps60
    go_wp2_with fail
    go_ret3
    exact ⟨rfl, Below.refl _ _⟩
  | cons b r =>
    have hb : (b.toNat : Int) < 256 := by have := b.toNat_lt; omega
    have hl : (S (b :: r)).size = r.length + 1 := by rw [S_size]; rfl
    rw [List.length_cons] at hs
    by_cases h : r.length < b.toNat
    · have h' : (r.length : Int) + 1 < 1 + (b.toNat : Int) := by omega
      have hv : Hid (splitV (b :: r) = .tuple #[.string ByteArray.empty, .string ByteArray.empty, .bool false]) := Lib.hid (by simp only [splitV, splitL, if_pos h]; rfl)
      clear h
      go_enter Tryz.func60, Tryz.ntmps60
      go_wp2_with fail
      go_ret3
      exact ⟨ret_val (by rw [hv.out]; rfl), Below.refl _ _⟩
    · have h' : ¬ (r.length : Int) + 1 < 1 + (b.toNat : Int) := by omega
      have h2 : (b.toNat : Int) ≤ (r.length : Int) := by omega
      have hv : Hid (splitV (b :: r) = .tuple #[.string (S (r.take b.toNat)), .string (S (r.drop b.toNat)), .bool true]) := Lib.hid (by simp only [splitV, splitL, if_neg h])
      clear h
      go_enter Tryz.func60, Tryz.ntmps60
      go_wp2_with fail
      go_region
      go_wp2_with fail
      go_ret3
      refine ⟨ret_val ?_, by go_grown⟩
      rw [hv.out]
      show Value.tuple #[.string (S (List.take (1 + b.toNat - 1) r)), .string (S (List.take (r.length + 1 - (1 + b.toNat)) (List.drop (1 + b.toNat) (b :: r)))), .bool true] = _
      rw [Nat.add_sub_cancel_left, Nat.add_comm 1, List.drop_succ_cons, List.take_of_length_le (l := List.drop b.toNat r) (by rw [List.length_drop]; omega)]

end Go.Proofs.YtafciefjlkdecaaGreat

namespace Go.Proofs.YtafciefjlkdecaaGreat
open Go.RowKit
attribute [local go_sem ↓] Go.wp_at_zero Go.wp_at_succ

theorem infoV : (Tryz.prog.info? 62).map (fun i => (i.zero, i.size, i.bytes)) = some (some (.agg #[.int .u8 0, .string ByteArray.empty, .string ByteArray.empty, .int .u64 0]), 4, 48) := by kernel_rfl
/-- What stands behind the first question. -/
def RestA (b : UInt8) (key more : List UInt8) (x : Upd) (m : List UInt8) : Prop :=
  (b.toNat = 1 ∧ restU b key more = some (x, m)) ∨ (b.toNat ≠ 1 ∧ x = ⟨b.toNat, key, [], 0⟩ ∧ m = more)

theorem stepU_key {b : UInt8} {r : List UInt8} {key more : List UInt8} {ok : Bool} (h : splitL r = (key, more, ok)) : stepU (b :: r) = if ok then (match restU b key more with | none => none | some (u, m) => if u.check = 0 then some (u, m) else none) else none := by
  show (if (splitL r).2.2 then (match restU b (splitL r).1 (splitL r).2.1 with | none => none | some (u, m) => if u.check = 0 then some (u, m) else none) else none) = _
  rw [h]

end Go.Proofs.YtafciefjlkdecaaGreat

namespace Go.Proofs.YtafciefjlkdecaaGreat
open Go.RowKit
attribute [local go_sem ↓] Go.wp_at_zero Go.wp_at_succ

theorem rising_not {α : Type} {key : α → List UInt8} {l : List α} {j : Nat} (h : ¬ Rising key (l.take j)) : ¬ Rising key l := fun hr => h (hr.sublist (List.take_sublist j l))
theorem rising_one {α : Type} {key : α → List UInt8} (l : List α) : Rising key (l.take 1) := by
  cases l with
  | nil => exact List.Pairwise.nil
  | cons a t => exact List.pairwise_singleton _ _
theorem rising_step {α : Type} {key : α → List UInt8} (l : List α) (q : Nat) (hq : q + 1 < l.length) (h : Rising key (l.take (q + 1))) : Rising key (l.take (q + 2)) ↔ bl (key (l[q]'(by omega))) (key l[q + 1]) = true := by
  rw [show q + 2 = (q + 1) + 1 from rfl, List.take_succ_eq_append_getElem hq]
  constructor
  · intro h2
    have h3 := (List.pairwise_append.1 h2).2.2
    refine h3 (l[q]'(by omega)) ?_ l[q + 1] (List.mem_singleton.2 rfl)
    rw [List.mem_take_iff_getElem]
    exact ⟨q, by omega, rfl⟩
  · intro h2
    refine List.pairwise_append.2 ⟨h, by simp, fun a ha b hb => ?_⟩
    rw [List.mem_singleton] at hb
    subst hb
    obtain ⟨i, hi, rfl⟩ := List.mem_take_iff_getElem.1 ha
    by_cases e : i = q
    · subst e; exact h2
    · have h4 := Rising.lt h (show i < q by omega) (by rw [List.length_take]; omega)
      simp only [List.getElem_take] at h4
      exact bl_trans h4 h2

/-- A buffer, and an error's number. -/
def BfRes (B : Nat) (p : List Upd × Nat) (e : Ending) (w' : World) : Prop :=
  ∃ a c, e = .returned (.tuple #[.agg #[.slice a p.1.length c], .int .i64 p.2]) ∧ w'.ownsRow B 39 4 (.slice a p.1.length c) p.1.length (cellsU p.1)
theorem BfRes.none (B : Nat) (n : Nat) (w' : World) (e : Ending) (he : e = .returned (.tuple #[.agg #[.slice none 0 0], .int .i64 n])) : BfRes B ([], n) e w' := ⟨Option.none, 0, he, World.ownsRow_nil _ _ _ _⟩

/-- What buf.Of makes of updates, and the error's number. -/
def ofU (l : List Upd) : List Upd × Nat := if risingB l then (l, 0) else ([], 2)
theorem ofU_yes {l : List Upd} (h : Rising Upd.key l) : ofU l = (l, 0) := by unfold ofU; rw [if_pos ((risingB_iff l).2 h)]
theorem ofU_no {l : List Upd} (h : ¬ Rising Upd.key l) : ofU l = ([], 2) := by unfold ofU; rw [if_neg (fun k => h ((risingB_iff l).1 k))]

set_option maxRecDepth 100000 in
set_option maxHeartbeats 4000000 in
theorem bufOf_any (ao : Option Addr) (n c : Nat) (l : List Upd) (w : World) (hn : n = l.length) (hl : l.length ≤ 1000000) (hs : SlU w (.slice ao n c) l) :
    Calls Tryz.prog 155 #[.slice ao n c] w fun e w' => BfRes w.heap.size (ofU l) e w' ∧ Below w.heap.size w w' := by
  subst hn
  have HY := Lib.hid (fun h : Rising Upd.key l => ofU_yes h)
  have HNO := Lib.hid (fun h : ¬ Rising Upd.key l => ofU_no h)
  have HS := Lib.hid hs
  generalize ofU l = R at *
  obtain ⟨ao', c', e', hs0, -⟩ := hs
  simp only [Value.slice.injEq] at e'
  obtain ⟨rfl, -, rfl⟩ := e'
  have HS0 := Lib.hid hs0
  clear hs0
  go_enter Tryz.func155, Tryz.ntmps155
  go_wp2_with fail
  go_loopw [4] (fun i wr => ∃ q : Nat, i = .int .i64 (q + 1 : Nat) ∧ (q + 1 ≤ l.length ∨ q = 0) ∧ Hid (Rising Upd.key (l.take (q + 1))) ∧ wr.cell? ⟨w.heap.size, 0, none⟩ = some (.slice none 0 0) ∧ wr.frozen? ⟨w.heap.size, 0, none⟩ = false ∧ w.heap.size < wr.heap.size ∧ Below w.heap.size w wr) (fun i _ => l.length - (intOf i).toNat)
  case atStart => exact ⟨0, rfl, Or.inr rfl, Lib.hid (rising_one l), by simp, by simp, by simp, by go_grown⟩
  case round =>
    obtain ⟨q, rfl, hj, hR, hp, hpf, hsz, hB⟩ := hrel
    have hq0 : (0 : Int) ≤ (q : Int) := Int.natCast_nonneg _
    rw [show ((q + 1 : Nat) : Int) = (q : Int) + 1 from rfl]
    by_cases hjl : q + 1 < l.length
    · have hj1 : (q : Int) + 1 < (l.length : Int) := by omega
      have hst := Lib.hid (rising_step l q hjl hR.out)
      have hno : Hid (¬ Rising Upd.key (l.take (q + 2)) → R = ([], 2)) := Lib.hid fun h => HNO.out (rising_not h)
      obtain ⟨b, off, rfl, hb, -, t1, -, -⟩ := SlAt.cells4 HS0.out (q + 1) hjl
      obtain ⟨b', off', e', hb', -, t1', -, -⟩ := SlAt.cells4 HS0.out q (by omega)
      simp only [Option.some.injEq, Addr.mk.injEq] at e'
      obtain ⟨rfl, rfl, -⟩ := e'
      have q1 := (cell_below hB hb _).trans t1
      have q2 := (cell_below hB hb _).trans t1'
      have hq1 : (q : Int) < (l.length : Int) := by omega
      have hw1 : IntKind.i64.wrap (q : Int) = (q : Int) := IntWalk.i64_in _ (by omega)
      have hw2 : IntKind.i64.wrap ((q : Int) + 1 - 1) = (q : Int) := by rw [show (q : Int) + 1 - 1 = (q : Int) by omega]; exact hw1
      clear t1 t1'
      cases hlt : bl l[q].key l[q + 1].key with
      | true =>
        have hR2 := Lib.hid (hst.out.2 hlt)
        clear hst hno
        have hlt' : Op.bytesLess l[q].key l[q + 1].key = true := hlt
        clear hlt
        generalize l[q + 1] = u at *
        generalize l[q] = u' at *
        go_wp2_with fail
        go_quiet (fail)
        go_wp2_with fail
        have hBn : Below wr.heap.size wr (wr.drewN nq) := below_drewN (Below.refl _ _) _
        exact ⟨⟨q + 1, by go_num, Or.inl (by omega), hR2, hp, hpf, hsz, hB.trans (hBn.mono (by omega))⟩, by simp [intOf]; omega⟩
      | false =>
        have hbf := Lib.hid (hno.out (fun h => by have h2 := hst.out.1 h; rw [hlt] at h2; exact absurd h2 (by simp)))
        clear hst hno
        have hlt' : Op.bytesLess l[q].key l[q + 1].key = false := hlt
        clear hlt
        generalize l[q + 1] = u at *
        generalize l[q] = u' at *
        go_wp2_with fail
        go_quiet (fail)
        go_wp2_with fail
        have hBn : Below w.heap.size w (wr.drewN nq) := below_drewN hB _
        refine bodyPost_ret (v := .tuple #[.agg #[.slice none 0 0], .int .i64 2]) (by simp [results, Tryz.results155, go_sem, hp]) rfl ⟨?_, ?_⟩
        · rw [hbf.out]
          exact BfRes.none _ _ _ _ rfl
        · exact hBn.setCell (p := ⟨w.heap.size, 0, none⟩) (Nat.le_refl _) _
    · have hjn : ¬ (q : Int) + 1 < (l.length : Int) := by omega
      have hbt := Lib.hid (HY.out (by have h := hR.out; rwa [List.take_of_length_le (by omega)] at h))
      have HS2 := Lib.hid (HS.out.kept hB (Nat.le_refl _))
      go_wp2_with fail
      refine (thread (cloneU _ l wr HS2.out hl) wr.heap.size wr (Below.refl _ _) (Nat.le_refl _)).mono ?_
      rintro e w1 ⟨⟨v1, rfl, hown1⟩, hX1, hk1, hf1, -, hz1⟩
      obtain ⟨a1, c1, e1⟩ := own_form hown1
      subst e1
      have p1 := (hk1 w.heap.size 0 hsz).trans hp
      have pf1 := (hf1 w.heap.size 0 hsz).trans hpf
      have hB1 := hB.trans (hX1.mono (by omega))
      have HO1 := Lib.hid hown1
      clear hk1 hf1 hX1 hp hpf hown1
      go_wp2_with fail
      refine bodyPost_ret (v := .tuple #[.agg #[.slice a1 l.length c1], .int .i64 0]) (by simp [results, Tryz.results155, go_sem, p1]) rfl ⟨?_, ?_⟩
      · rw [hbt.out]
        exact ⟨a1, c1, rfl, own_base (ownsRow_setCell_other (a := ⟨w.heap.size, 0, none⟩) HO1.out (fun e => by have h2 : wr.heap.size ≤ w.heap.size := (HO1.out.lt _ e).1; omega) _) (by omega)⟩
      · exact hB1.setCell (p := ⟨w.heap.size, 0, none⟩) (Nat.le_refl _) _

end Go.Proofs.YtafciefjlkdecaaGreat
