/-
  The walk of rec.first.
-/
import Derived.Test.YtcjeonamebnpfaaPruP
import Derived.Test.YtcjeonamebnpfaaChk
import Derived.Test.YtcjeonamebnpfaaMsgO
import Derived.Test.YtcjeonamebnpfaaUse
import Derived.BigRegion
import Derived.Deep.RegionLawGrows
import Derived.Deep.DeepCutAuto
import Derived.Deep.CutBlock
namespace Go.Proofs.Ytcjeonamebnpfaa
open Go.RowKit
attribute [local go_sem ↓] Go.wp_at_zero Go.wp_at_succ

/-- What rec.first tells. -/
def FirstRes : Option (Upd × List UInt8) → Ending → Prop
  | some p, e => e = .returned (.tuple #[updV p.1, .string (S p.2), .bool true])
  | none, e => ∃ (x : Upd) (y : List UInt8), e = .returned (.tuple #[updV x, .string (S y), .bool false])

theorem read_byte (aw : Option Addr) (cw : Nat) (b : UInt8) (r : List UInt8) (w : World) (hs : IntsW w aw [(1, b.toNat)]) (hr : r.length ≤ 1000000) :
    Calls Try.prog 79 #[.slice aw 1 cw, .string (S (b :: r))] w fun e w' => (∃ ao c, e = .returned (.tuple #[.slice ao 1 c, .string (S r), .bool true]) ∧ NumsW w' ao [(1, b.toNat)]) ∧ Below w.heap.size w w' := by
  have hb := b.toNat_lt
  have h := read_ok aw cw [(1, b.toNat)] r w hs (wide1 1 _ (by decide) (by decide)) (fun p hp => by rw [List.mem_singleton] at hp; rw [hp]; exact hb) (by simp) hr
  have e : wtext [(1, b.toNat)] ++ r = b :: r := by simp [wtext, le]
  rw [e] at h
  exact h
theorem read_eight (aw : Option Addr) (cw : Nat) (s : List UInt8) (w : World) (h8 : 8 ≤ s.length) (hs : IntsW w aw [(8, numL (s.take 8))]) (hr : s.length ≤ 1000000) :
    Calls Try.prog 79 #[.slice aw 1 cw, .string (S s)] w fun e w' => (∃ ao c, e = .returned (.tuple #[.slice ao 1 c, .string (S (s.drop 8)), .bool true]) ∧ NumsW w' ao [(8, numL (s.take 8))]) ∧ Below w.heap.size w w' := by
  have hl : (s.take 8).length = 8 := by rw [List.length_take]; omega
  have h := read_ok aw cw [(8, numL (s.take 8))] (s.drop 8) w hs (wide1 8 _ (by decide) (by decide)) (fun p hp => by rw [List.mem_singleton] at hp; rw [hp]; exact numL_take s h8) (by simp) (by rw [List.length_drop]; omega)
  have e : wtext [(8, numL (s.take 8))] ++ s.drop 8 = s := by
    have := le_numL (s.take 8)
    rw [hl] at this
    simp only [wtext, List.flatMap_cons, List.flatMap_nil, List.append_nil]
    rw [this, List.take_append_drop]
  rw [e] at h
  exact h

theorem intsW_at (w : World) (b : Nat) (hb : w.heap.size = b) (c : Array Value) (e : TypeId) (ps : List (Nat × Nat)) (hc : c.toList = ps.map fun p => .int .i64 p.1) : IntsW (w.alloc (.cells c e (0, 0))) (some ⟨b, 0, none⟩) ps := by
  subst hb
  exact intsW_new w c e (0, 0) ps hc

abbrev ResBox : Obj := .cells #[.int .u8 0, .string ByteArray.empty, .string ByteArray.empty, .int .u64 0] 31

/-- An update in a box. -/
structure UAt (w : World) (g : Nat) (x : Upd) : Prop where
  c0 : w.cell? ⟨g, 0, none⟩ = some (.int .u8 x.kind)
  c1 : w.cell? ⟨g, 1, none⟩ = some (.string (S x.key))
  c2 : w.cell? ⟨g, 2, none⟩ = some (.string (S x.val))
  c3 : w.cell? ⟨g, 3, none⟩ = some (.int .u64 x.delta)
  free : ∀ i, w.frozen? ⟨g, i, none⟩ = false
  lt : g < w.heap.size
theorem UAt.new (w : World) (t : TypeId) : UAt (w.alloc (.cells #[.int .u8 0, .string ByteArray.empty, .string ByteArray.empty, .int .u64 0] t)) w.heap.size ⟨0, [], [], 0⟩ :=
  ⟨by simp, by simp; rfl, by simp; rfl, by simp, fun i => by simp, by simp⟩
theorem UAt.on {w w' : World} {g B : Nat} {x : Upd} (h : UAt w g x) (hb : Below B w w') (hB : g < B) : UAt w' g x :=
  ⟨(hb.cell (p := ⟨g, 0, none⟩) hB).trans h.c0, (hb.cell (p := ⟨g, 1, none⟩) hB).trans h.c1, (hb.cell (p := ⟨g, 2, none⟩) hB).trans h.c2, (hb.cell (p := ⟨g, 3, none⟩) hB).trans h.c3, fun i => (hb.frozen (p := ⟨g, i, none⟩) hB).trans (h.free i), Nat.lt_of_lt_of_le h.lt hb.size⟩
theorem UAt.far {w : World} {g : Nat} {x : Upd} (h : UAt w g x) {p : Addr} (hp : p.block ≠ g) (v : Value) : UAt (w.setCell p v) g x :=
  ⟨(World.cell?_setCell_far w p _ v hp).trans h.c0, (World.cell?_setCell_far w p _ v hp).trans h.c1, (World.cell?_setCell_far w p _ v hp).trans h.c2, (World.cell?_setCell_far w p _ v hp).trans h.c3, fun i => by rw [World.frozen?_setCell]; exact h.free i, by rw [World.size_setCell]; exact h.lt⟩
theorem off_ne {g i j : Nat} (h : i ≠ j) : (⟨g, i, none⟩ : Addr) ≠ ⟨g, j, none⟩ := fun e => h (by injection e)
theorem UAt.setKey {w : World} {g : Nat} {x : Upd} (h : UAt w g x) (k : List UInt8) : UAt (w.setCell ⟨g, 1, none⟩ (.string (S k))) g ⟨x.kind, k, x.val, x.delta⟩ :=
  ⟨(World.cell?_setCell_other w _ _ _ (off_ne (by decide))).trans h.c0, World.cell?_setCell_same w _ _ h.c1, (World.cell?_setCell_other w _ _ _ (off_ne (by decide))).trans h.c2, (World.cell?_setCell_other w _ _ _ (off_ne (by decide))).trans h.c3, fun i => by rw [World.frozen?_setCell]; exact h.free i, by rw [World.size_setCell]; exact h.lt⟩
theorem UAt.setVal {w : World} {g : Nat} {x : Upd} (h : UAt w g x) (k : List UInt8) : UAt (w.setCell ⟨g, 2, none⟩ (.string (S k))) g ⟨x.kind, x.key, k, x.delta⟩ :=
  ⟨(World.cell?_setCell_other w _ _ _ (off_ne (by decide))).trans h.c0, (World.cell?_setCell_other w _ _ _ (off_ne (by decide))).trans h.c1, World.cell?_setCell_same w _ _ h.c2, (World.cell?_setCell_other w _ _ _ (off_ne (by decide))).trans h.c3, fun i => by rw [World.frozen?_setCell]; exact h.free i, by rw [World.size_setCell]; exact h.lt⟩
theorem UAt.setDelta {w : World} {g : Nat} {x : Upd} (h : UAt w g x) (d : Nat) : UAt (w.setCell ⟨g, 3, none⟩ (.int .u64 d)) g ⟨x.kind, x.key, x.val, d⟩ :=
  ⟨(World.cell?_setCell_other w _ _ _ (off_ne (by decide))).trans h.c0, (World.cell?_setCell_other w _ _ _ (off_ne (by decide))).trans h.c1, (World.cell?_setCell_other w _ _ _ (off_ne (by decide))).trans h.c2, World.cell?_setCell_same w _ _ h.c3, fun i => by rw [World.frozen?_setCell]; exact h.free i, by rw [World.size_setCell]; exact h.lt⟩
/-- What the middle of rec.first leaves. -/
def RestIs : Option (Upd × List UInt8) → Upd → List UInt8 → Bool → Prop
  | some p, x, m, o => o = true ∧ x = p.1 ∧ m = p.2
  | none, _, _, o => o = false

set_option maxRecDepth 100000 in
set_option maxHeartbeats 4000000 in
theorem first_nil (w : World) :
    Calls Try.prog 85 #[.string (S [])] w fun e w' => FirstRes (stepU []) e ∧ Below w.heap.size w w' := by
  have hr := read_short (some ⟨w.heap.size + 1, 0, none⟩) 1 [(1, 0)] [] _ (intsW_at (w.alloc ResBox) _ (by simp) #[.int .i64 1] 3 [(1, 0)] rfl) (wide1 1 0 (by decide) (by decide)) (by simp) (by decide)
  go_enter Try.func85, Try.ntmps85
  go_wp2_with (go_at_call 79; refine (hr).mono ?_; rintro e w' ⟨rfl, rfl⟩)
  refine bodyPost_ret (v := .tuple #[updV ⟨0, [], [], 0⟩, .string (S []), .bool false]) (by simp [results, Try.results85, go_sem, updV]; rfl) rfl ⟨⟨_, _, rfl⟩, by go_grown⟩

set_option maxRecDepth 100000 in
set_option maxHeartbeats 8000000 in
theorem first_cons (b : UInt8) (r : List UInt8) (hl : r.length ≤ 900000) (w : World) :
    Calls Try.prog 85 #[.string (S (b :: r))] w fun e w' => FirstRes (stepU (b :: r)) e ∧ Below w.heap.size w w' := by
  have hr := read_byte (some ⟨w.heap.size + 1, 0, none⟩) 1 b r _ (intsW_at (w.alloc ResBox) _ (by simp) #[.int .i64 1] 3 [(1, b.toNat)] rfl) (by omega)
  have hb256 := b.toNat_lt
  have hs1 := fun W => split_any r (by omega) W
  unfold splitV at hs1
  have hst : stepU (b :: r) = if (splitL r).2.2 then (match restU b (splitL r).1 (splitL r).2.1 with | none => none | some (u, m) => if u.check = 0 then some (u, m) else none) else none := rfl
  have hq1 := (splitL_len r).1
  generalize splitL r = p1 at *
  obtain ⟨key, more, ok⟩ := p1
  dsimp only at hs1 hst hq1
  have HS1 := Lib.hid hs1
  have HST := Lib.hid hst
  have HR := Lib.hid hr
  clear hs1 hst hr
  go_enter Try.func85, Try.ntmps85
  go_wp2_with fail
  refine (thread HR.out (w.heap.size + 1) (w.alloc ResBox) (by go_grown) (by go_grown)).mono ?_
  rintro e w1 ⟨⟨ao, c, rfl, hN⟩, hB1, -, -, -, hz1⟩
  obtain ⟨bN, oN, rfl, hbN, hcN⟩ := hN.at (by simp)
  have hc0 := hcN 0 (by simp) 0 _ rfl
  simp only [Nat.mul_one, Nat.add_zero, List.getElem_cons_zero] at hc0
  clear hcN hN HR
  have hbm : ((b.toNat : Int) % 256) = (b.toNat : Int) := by omega
  go_wp2_with fail
  refine (thread (HS1.out _) w1.heap.size w1 (by go_grown) (by go_grown)).mono ?_
  rintro e w2 ⟨rfl, hX2, hk2, hf2, hs2, hz2⟩
  have hu1 : w1.heap.size < w2.heap.size := by simp at hs2; omega
  have hU : UAt w2 w1.heap.size ⟨b.toNat, [], [], 0⟩ := ⟨(hk2 w1.heap.size 0 (by simp)).trans (by simp), (hk2 w1.heap.size 1 (by simp)).trans (by simp; rfl), (hk2 w1.heap.size 2 (by simp)).trans (by simp; rfl), (hk2 w1.heap.size 3 (by simp)).trans (by simp), fun i => (hf2 w1.heap.size i (by simp)).trans (by simp), hu1⟩
  have hBx := hB1.trans (hX2.mono hz1)
  have hR : UAt w2 w.heap.size ⟨0, [], [], 0⟩ := UAt.on (UAt.new w 31) (hBx.mono (Nat.le_refl _)) (Nat.lt_succ_self _)
  have hB2 : Below w.heap.size w w2 := (Below.alloc (Below.refl _ w) (Nat.le_refl _) ResBox).trans (hBx.mono (Nat.le_succ _))
  have hne : w1.heap.size ≠ w.heap.size := by omega
  clear hk2 hf2 hs2 hX2 hBx hB1 hc0
  have hUk := (hU.setKey key)
  have hRk := hR.far (p := ⟨w1.heap.size, 1, none⟩) hne (.string (S key))
  have hBk := hB2.setCell (p := ⟨w1.heap.size, 1, none⟩) (by show w.heap.size ≤ w1.heap.size; omega) (.string (S key))
  have hzk : w1.heap.size < (w2.setCell ⟨w1.heap.size, 1, none⟩ (.string (S key))).heap.size := by rw [World.size_setCell]; exact hu1
  cases ok with
  | false =>
    have hst2 : stepU (b :: r) = none := HST.out.trans rfl
    have HST2 := Lib.hid hst2
    have HBK := Lib.hid hBk
    obtain ⟨r0, r1, r2, r3, rf, -⟩ := hR
    obtain ⟨-, u1, -, -, uf, -⟩ := hU
    have u1f := uf 1
    have rf0 := rf 0
    have rf1 := rf 1
    have rf2 := rf 2
    have rf3 := rf 3
    clear hst2 HST hUk hRk hzk hBk uf rf
    go_wp2_with fail
    refine bodyPost_ret (v := .tuple #[updV ⟨0, [], [], 0⟩, .string (S []), .bool false]) (by simp [results, Try.results85, go_sem, updV, r0, r1, r2, r3]; rfl) rfl ⟨?_, ?_⟩
    · rw [HST2.out]
      exact ⟨_, _, rfl⟩
    · exact ((((HBK.out).setCell (p := ⟨w.heap.size, 0, none⟩) (Nat.le_refl _) _).setCell (p := ⟨w.heap.size, 1, none⟩) (Nat.le_refl _) _).setCell (p := ⟨w.heap.size, 2, none⟩) (Nat.le_refl _) _).setCell (p := ⟨w.heap.size, 3, none⟩) (Nat.le_refl _) _
  | true =>
    have hst2 : stepU (b :: r) = (match restU b key more with | none => none | some (u, m) => if u.check = 0 then some (u, m) else none) := HST.out.trans rfl
    have HST2 := Lib.hid hst2
    obtain ⟨u0, u1, -, -, uf, -⟩ := hU
    have u1f := uf 1
    dsimp only at u0
    clear hst2 HST uf
    go_upto_region 8 with (fail)
    go_upto_block 0 with (fail)
    generalize w2.setCell ⟨w1.heap.size, 1, none⟩ (.string (S key)) = W at *
    go_cut [0, 6] (fun s t wx => ∃ (x : Upd) (m : List UInt8) (o : Bool), s = .string (S m) ∧ t = .bool o ∧ UAt wx w1.heap.size x ∧ UAt wx w.heap.size ⟨0, [], [], 0⟩ ∧ x.Wf ∧ RestIs (restU b key more) x m o ∧ Below w.heap.size w wx)
    case first =>
      have HBK := Lib.hid hBk
      have HRK := Lib.hid hRk
      have HUK := Lib.hid hUk
      obtain ⟨k0, k1, k2, k3, kf, -⟩ := hUk
      have k2f := kf 2
      have k3f := kf 3
      dsimp only at k0
      clear hBk hRk kf k1 u0 u1 u1f hB2 hR
      by_cases h1 : b.toNat = 1
      · have h1' : ((b.toNat : Int) == 1) = true := by simp [h1]
        have hre : restU b key more = (if (splitL more).2.2 then some (⟨1, key, (splitL more).1, 0⟩, (splitL more).2.1) else none) := by unfold restU; rw [if_pos h1]
        have hs2 := fun W => split_any more (by omega) W
        unfold splitV at hs2
        generalize splitL more = p2 at *
        obtain ⟨val, m2, is⟩ := p2
        dsimp only at hs2 hre
        have HS2 := Lib.hid hs2
        have HRE := Lib.hid hre
        have H1 := Lib.hid h1
        clear hs2 hre h1
        go_wp2_with fail
        refine (thread (HS2.out _) W.heap.size W (Below.refl _ _) (Nat.le_refl _)).mono ?_
        rintro e w3 ⟨rfl, hX3, hk3, hf3, -, hz3⟩
        have k2 := (hk3 w1.heap.size 2 hzk).trans k2
        have k2f := (hf3 w1.heap.size 2 hzk).trans k2f
        have hU3 := (HUK.out.on hX3 hzk)
        have hR3 := (HRK.out.on hX3 (by omega))
        have HB3 := Lib.hid (HBK.out.trans (hX3.mono (by omega)))
        have HU3 := Lib.hid (hU3.setVal val)
        have HR3 := Lib.hid (hR3.far (p := ⟨w1.heap.size, 2, none⟩) hne (.string (S val)))
        clear hU3 hR3 hX3 hk3 hf3 k0 k3 k3f
        go_wp2_with fail
        go_meet
        refine ⟨_, m2, is, rfl, rfl, HU3.out, HR3.out, ⟨hb256, by show (0 : Nat) < _; decide⟩, ?_, HB3.out.setCell (p := ⟨w1.heap.size, 2, none⟩) (by show w.heap.size ≤ w1.heap.size; omega) _⟩
        rw [HRE.out]
        cases is with
        | true => exact ⟨rfl, by simp only [H1.out], rfl⟩
        | false => exact rfl
      · have h1' : ((b.toNat : Int) == 1) = false := by simp; omega
        by_cases h3 : b.toNat = 3
        · have h3' : ((b.toNat : Int) == 3) = true := by simp [h3]
          have hre : restU b key more = (if more.length < 8 then none else some (⟨3, key, [], numL (more.take 8)⟩, more.drop 8)) := by unfold restU; rw [if_neg h1, if_pos h3]
          have H3 := Lib.hid h3
          by_cases h8 : more.length < 8
          · rw [if_pos h8] at hre
            have HRE := Lib.hid hre
            have hr := read_short (some ⟨W.heap.size, 0, none⟩) 1 [(8, 0)] more _ (intsW_at W _ rfl #[.int .i64 8] 3 [(8, 0)] rfl) (wide1 8 0 (by decide) (by decide)) (by simp) (by simpa [sumW] using h8)
            have HRD := Lib.hid hr
            clear hre hr h8 h3 h1
            go_wp2_with (go_at_call 79; refine (HRD.out).mono ?_; rintro e w' ⟨rfl, rfl⟩)
            go_meet
            exact ⟨_, [], false, rfl, rfl, HUK.out.on ((Below.refl _ W).alloc (Nat.le_refl _) _) hzk, HRK.out.on ((Below.refl _ W).alloc (Nat.le_refl _) _) (by omega), ⟨hb256, by show (0 : Nat) < _; decide⟩, by rw [HRE.out]; exact rfl, HBK.out.alloc (by omega) _⟩
          · rw [if_neg h8] at hre
            have HRE := Lib.hid hre
            have hr := read_eight (some ⟨W.heap.size, 0, none⟩) 1 more _ (by omega) (intsW_at W _ rfl #[.int .i64 8] 3 [(8, numL (more.take 8))] rfl) (by omega)
            have HN8 := Lib.hid (numL_take more (by omega))
            generalize numL (more.take 8) = D at *
            generalize more.drop 8 = rest at *
            have HRD := Lib.hid hr
            clear hre hr h3 h1
            go_wp2_with fail
            refine (thread HRD.out W.heap.size W (by go_grown) (by go_grown)).mono ?_
            rintro e w3 ⟨⟨ao3, c3', rfl, hN⟩, hX3, -, -, -, hz3⟩
            obtain ⟨b3, o3, rfl, hb3, hcN⟩ := hN.at (by simp)
            have n0 := hcN 0 (by simp) 0 _ rfl
            simp only [Nat.mul_one, Nat.add_zero, List.getElem_cons_zero] at n0
            have hU3 := (HUK.out.on hX3 hzk)
            have hR3 := (HRK.out.on hX3 (by omega))
            have k3 := hU3.c3
            have k3f := hU3.free 3
            dsimp only at k3
            have HB3 := Lib.hid (HBK.out.trans (hX3.mono (by omega)))
            have HU3 := Lib.hid (hU3.setDelta D)
            have HR3 := Lib.hid (hR3.far (p := ⟨w1.heap.size, 3, none⟩) hne (.int .u64 D))
            clear hU3 hR3 hX3 hcN hN k0 k2 k2f
            go_wp2_with fail
            go_meet
            refine ⟨_, rest, true, rfl, rfl, HU3.out, HR3.out, ⟨hb256, HN8.out⟩, ?_, HB3.out.setCell (p := ⟨w1.heap.size, 3, none⟩) (by show w.heap.size ≤ w1.heap.size; omega) _⟩
            rw [HRE.out]
            exact ⟨rfl, by simp only [H3.out], rfl⟩
        · have h3' : ((b.toNat : Int) == 3) = false := by simp; omega
          have HRE := Lib.hid (show restU b key more = some (⟨b.toNat, key, [], 0⟩, more) by unfold restU; rw [if_neg h1, if_neg h3])
          go_wp2_with fail
          go_meet
          exact ⟨_, more, true, rfl, rfl, HUK.out, HRK.out, ⟨hb256, by show (0 : Nat) < _; decide⟩, by rw [HRE.out]; exact ⟨rfl, rfl, rfl⟩, HBK.out⟩
    case rest =>
      obtain ⟨x, m, o, rfl, rfl, hUx, hRx, hwf, hRI, hBx⟩ := hcut
      have HWF := Lib.hid hwf
      have HB := Lib.hid hBx
      obtain ⟨x0, x1, x2, x3, -, hxl⟩ := hUx
      obtain ⟨r0, r1, r2, r3, rf, hrl⟩ := hRx
      have rf0 := rf 0
      have rf1 := rf 1
      have rf2 := rf 2
      have rf3 := rf 3
      dsimp only at r0 r1 r2 r3
      clear hUk hRk hBk hzk u0 u1 u1f rf hbm
      cases o with
      | false =>
        have hst3 : stepU (b :: r) = none := by
          rw [HST2.out]
          cases hr : restU b key more with
          | none => rfl
          | some p => rw [hr] at hRI; exact absurd hRI.1 (by simp)
        have HST3 := Lib.hid hst3
        clear hst3 hRI hwf hBx
        go_wp2_with fail
        go_big_region
        all_goals
          go_wp2_with fail
          refine bodyPost_ret (v := .tuple #[updV x, .string (S m), .bool false]) (by simp [results, Try.results85, go_sem, updV, r0, r1, r2, r3]) rfl ⟨?_, ?_⟩
          · rw [HST3.out]
            exact ⟨_, _, rfl⟩
          · first | exact ((((HB.out).setCell (p := ⟨w.heap.size, 0, none⟩) (Nat.le_refl _) _).setCell (p := ⟨w.heap.size, 1, none⟩) (Nat.le_refl _) _).setCell (p := ⟨w.heap.size, 2, none⟩) (Nat.le_refl _) _).setCell (p := ⟨w.heap.size, 3, none⟩) (Nat.le_refl _) _ | exact below_drew' (((((HB.out).setCell (p := ⟨w.heap.size, 0, none⟩) (Nat.le_refl _) _).setCell (p := ⟨w.heap.size, 1, none⟩) (Nat.le_refl _) _).setCell (p := ⟨w.heap.size, 2, none⟩) (Nat.le_refl _) _).setCell (p := ⟨w.heap.size, 3, none⟩) (Nat.le_refl _) _)
      | true =>
        have hst3 : stepU (b :: r) = if (Upd.mk x.kind x.key x.val x.delta).check = 0 then some (x, m) else none := by
          rw [HST2.out]
          cases hr : restU b key more with
          | none => rw [hr] at hRI; exact absurd hRI (by simp [RestIs])
          | some p => rw [hr] at hRI; obtain ⟨-, rfl, rfl⟩ := hRI; rfl
        have HST3 := Lib.hid hst3
        have HCK := Lib.hid (fun W => chk x.kind x.key x.val x.delta HWF.out.1 HWF.out.2 W)
        generalize (Upd.mk x.kind x.key x.val x.delta).check = ck at *
        clear hRI hwf hBx
        by_cases hc0 : ck = 0
        · have hcb : ((ck : Int) == 0) = true := by simp [hc0]
          have HST4 := Lib.hid (show stepU (b :: r) = some (x, m) by rw [hst3, if_pos hc0])
          clear hst3 HST3 hc0
          go_wp2_with fail
          go_region_law (first | (go_simp; go_at_call 76; refine (HCK.out _).mono ?_; rintro e w4 ⟨rfl, hb4⟩; have y0 := kept_cell hb4 (cell_drew x0); have y1 := kept_cell hb4 (cell_drew x1); have y2 := kept_cell hb4 (cell_drew x2); have y3 := kept_cell hb4 (cell_drew x3); have z0 := kept_cell hb4 (cell_drew r0); have z1 := kept_cell hb4 (cell_drew r1); have z2 := kept_cell hb4 (cell_drew r2); have z3 := kept_cell hb4 (cell_drew r3); have zf0 := (hb4.frozen (p := ⟨w.heap.size, 0, none⟩) hrl).trans rf0; have zf1 := (hb4.frozen (p := ⟨w.heap.size, 1, none⟩) hrl).trans rf1; have zf2 := (hb4.frozen (p := ⟨w.heap.size, 2, none⟩) hrl).trans rf2; have zf3 := (hb4.frozen (p := ⟨w.heap.size, 3, none⟩) hrl).trans rf3; have hB4 := (below_drew' HB.out).trans (hb4.mono HB.out.size); clear hb4))
          all_goals
            go_wp2_with fail
            refine bodyPost_ret (v := .tuple #[updV x, .string (S m), .bool true]) (by simp [results, Try.results85, go_sem, updV, z0, z1, z2, z3]) rfl ⟨?_, ?_⟩
            · rw [HST4.out]
              exact rfl
            · exact (((hB4.setCell (p := ⟨w.heap.size, 0, none⟩) (Nat.le_refl _) _).setCell (p := ⟨w.heap.size, 1, none⟩) (Nat.le_refl _) _).setCell (p := ⟨w.heap.size, 2, none⟩) (Nat.le_refl _) _).setCell (p := ⟨w.heap.size, 3, none⟩) (Nat.le_refl _) _
        · have hcb : ((ck : Int) == 0) = false := by simp; omega
          have HST4 := Lib.hid (show stepU (b :: r) = none by rw [hst3, if_neg hc0])
          clear hst3 HST3 hc0
          go_wp2_with fail
          go_region_law (first | (go_simp; go_at_call 76; refine (HCK.out _).mono ?_; rintro e w4 ⟨rfl, hb4⟩; have y0 := kept_cell hb4 (cell_drew x0); have y1 := kept_cell hb4 (cell_drew x1); have y2 := kept_cell hb4 (cell_drew x2); have y3 := kept_cell hb4 (cell_drew x3); have z0 := kept_cell hb4 (cell_drew r0); have z1 := kept_cell hb4 (cell_drew r1); have z2 := kept_cell hb4 (cell_drew r2); have z3 := kept_cell hb4 (cell_drew r3); have zf0 := (hb4.frozen (p := ⟨w.heap.size, 0, none⟩) hrl).trans rf0; have zf1 := (hb4.frozen (p := ⟨w.heap.size, 1, none⟩) hrl).trans rf1; have zf2 := (hb4.frozen (p := ⟨w.heap.size, 2, none⟩) hrl).trans rf2; have zf3 := (hb4.frozen (p := ⟨w.heap.size, 3, none⟩) hrl).trans rf3; have hB4 := (below_drew' HB.out).trans (hb4.mono HB.out.size); clear hb4))
          all_goals
            go_wp2_with fail
            refine bodyPost_ret (v := .tuple #[updV x, .string (S m), .bool false]) (by simp [results, Try.results85, go_sem, updV, z0, z1, z2, z3]) rfl ⟨?_, ?_⟩
            · rw [HST4.out]
              exact ⟨_, _, rfl⟩
            · exact (((hB4.setCell (p := ⟨w.heap.size, 0, none⟩) (Nat.le_refl _) _).setCell (p := ⟨w.heap.size, 1, none⟩) (Nat.le_refl _) _).setCell (p := ⟨w.heap.size, 2, none⟩) (Nat.le_refl _) _).setCell (p := ⟨w.heap.size, 3, none⟩) (Nat.le_refl _) _

/-- The update at the head of bytes. -/
theorem first_any (s : List UInt8) (hl : s.length ≤ 900000) (w : World) :
    Calls Try.prog 85 #[.string (S s)] w fun e w' => FirstRes (stepU s) e ∧ Below w.heap.size w w' := by
  cases s with
  | nil => exact first_nil w
  | cons b r => exact first_cons b r (by rw [List.length_cons] at hl; omega) w

end Go.Proofs.Ytcjeonamebnpfaa
