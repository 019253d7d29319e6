/-
  The walk of rec.first.   The walk of rec.Parse.   The walks of the document's Get of a number, and of its On of a value.   The walk of the document's Split.   The walk of the document's Parse of updates.   The walks of buf.Of, buf.Parse, and of the document's Rising and Parse of layer 15. The walks of buf.Parse, and of the document's Parse of layer 15.   The walks of the look for a key among entries: the comparison, the binary search.   The walk of slices.Clone at entries; slices as arguments.   The walks of a value that holds entries: how many, the list, the place of a key.   The walk of slices.Insert of one element into a row of the call's own, at entries.   The walk of slices.Delete of one element of a row of the call's own, at entries.   The walk of (*leaf.Leaf).on: what an update makes of a leaf in its box. What the statements' proofs share: how arguments are opened.   How slices of ints and of bytes are opened, as arguments.   How arguments are opened that are arrays of two texts.   How an argument is opened that is a slice of updates.   How arguments are opened that are slices of entries, or arrays of two short numbers. A tree's blocks: rows whose cells are written; a vertex, a tree; New, Open, small. Plain laws on a leaf's entries: what an update makes of them, told by what each key has.   The walk of (leaf.Leaf).Parts.   The walk of (leaf.Leaf).Get.   The walk of (leaf.Leaf).On: what updates make of a leaf.   Entries that may be (leaf.Of, Entry.right, the document's Right); the document's Split.   The entries of bytes: plain laws, no program in sight.   The walks of the document's Right, and of leaf.Of. The walk of leaf.Of.   The walks of the document's numbers: treenailref01.Get, treenailref14.On. The walk of the document's Parse of entries.   The walk of leaf.Parse.   The walk of the document's bytes of entries (layer 16).   The walks of strings.Builder's copyCheck and WriteString (after the shelf's own).   Two rows of updates that grow side by side: the appends of one statement, in whatever order their operands are laid.   Updates that tame made stay such in a buffer: plain laws.   What the waiting message of a key is: the join of all that were put of it; what that makes of a value. Plain laws.   The walk of msg.All.   The plain words of layer 18 (plan): when a plan may be, how many bytes its full node and leaf have, its check and its best. No program in sight. The walks of layer 18 (plan) and of what it calls: each function once. The walk of fetch: a vertex at a height, loaded. Children as cells; the walk of slices.Clone at children.
-/
import Derived.BigRegion
import Derived.Deep.RegionLawGrows
import Derived.Deep.DeepCutAuto
import Derived.Deep.CutBlock
import Derived.BigQuiet
import Derived.Deep.DrawnRows
import Derived.Lib.Walk
import Derived.Outline
import Derived.Deep.RegionHeld3
import Derived.ProofKit
import Derived.OpenShut
import Derived.ShutString
import Derived.ChangeOld
import Derived.SizedLaws
import Derived.Lib.SmallJoins
import Derived.Deep.Slices
import Derived.Deep.Cut
import Derived.Deep.RegionWith
import Derived.Shelf.Abstract
import Derived.Test.YtafciefjlkdecaaGreatQsa
set_option maxRecDepth 100000
set_option maxHeartbeats 16000000
namespace Go.Proofs.YtafciefjlkdecaaGreat
open Go.RowKit
attribute [local go_sem ↓] Go.wp_at_zero Go.wp_at_succ
def FirstRes : Option (Upd × List UInt8) → Ending → Prop
 | some p, e => e = .returned (.tuple #[updV p.1, .string (S p.2), .bool true])
 | none, e => ∃ (x : Upd) (y : List UInt8), e = .returned (.tuple #[updV x, .string (S y), .bool false])
theorem read_byte (aw : Option Addr) (cw : Nat) (b : UInt8) (r : List UInt8) (w : World) (hs : IntsW w aw [(1, b.toNat)]) (hr : r.length ≤ 1000000) :
  Calls Tryz.prog 114 #[.slice aw 1 cw, .string (S (b :: r))] w fun e w' => (∃ ao c, e = .returned (.tuple #[.slice ao 1 c, .string (S r), .bool true]) ∧ NumsW w' ao [(1, b.toNat)]) ∧ Below w.heap.size w w' := by
 have hb := b.toNat_lt
 have h := read_ok aw cw [(1, b.toNat)] r w hs (wide1 1 _ (by decide) (by decide)) (fun p hp => by rw [List.mem_singleton] at hp; rw [hp]; exact hb) (by simp) hr
 have e : wtext [(1, b.toNat)] ++ r = b :: r := by simp [wtext, le]
 rw [e] at h
 exact h
theorem read_eight (aw : Option Addr) (cw : Nat) (s : List UInt8) (w : World) (h8 : 8 ≤ s.length) (hs : IntsW w aw [(8, numL (s.take 8))]) (hr : s.length ≤ 1000000) :
  Calls Tryz.prog 114 #[.slice aw 1 cw, .string (S s)] w fun e w' => (∃ ao c, e = .returned (.tuple #[.slice ao 1 c, .string (S (s.drop 8)), .bool true]) ∧ NumsW w' ao [(8, numL (s.take 8))]) ∧ Below w.heap.size w w' := by
 have hl : (s.take 8).length = 8 := by rw [List.length_take]; omega
 have h := read_ok aw cw [(8, numL (s.take 8))] (s.drop 8) w hs (wide1 8 _ (by decide) (by decide)) (fun p hp => by rw [List.mem_singleton] at hp; rw [hp]; exact numL_take s h8) (by simp) (by rw [List.length_drop]; omega)
 have e : wtext [(8, numL (s.take 8))] ++ s.drop 8 = s := by
  have := le_numL (s.take 8)
  rw [hl] at this
  simp only [wtext, List.flatMap_cons, List.flatMap_nil, List.append_nil]
  rw [this, List.take_append_drop]
 rw [e] at h
 exact h
theorem intsW_at (w : World) (b : Nat) (hb : w.heap.size = b) (c : Array Value) (e : TypeId) (ps : List (Nat × Nat)) (hc : c.toList = ps.map fun p => .int .i64 p.1) : IntsW (w.alloc (.cells c e (0, 0))) (some ⟨b, 0, none⟩) ps := by
 subst hb
 exact intsW_new w c e (0, 0) ps hc
abbrev ResBox : Obj := .cells #[.int .u8 0, .string ByteArray.empty, .string ByteArray.empty, .int .u64 0] 39
def RestIs : Option (Upd × List UInt8) → Upd → List UInt8 → Bool → Prop
 | some p, x, m, o => o = true ∧ x = p.1 ∧ m = p.2
 | none, _, _, o => o = false
theorem first_nil (w : World) :
  Calls Tryz.prog 176 #[.string (S [])] w fun e w' => FirstRes (stepU []) e ∧ Below w.heap.size w w' := by
 have hr := read_short (some ⟨w.heap.size + 1, 0, none⟩) 1 [(1, 0)] [] _ (intsW_at (w.alloc ResBox) _ (by simp) #[.int .i64 1] 3 [(1, 0)] rfl) (wide1 1 0 (by decide) (by decide)) (by simp) (by decide)
 go_enter Tryz.func176, Tryz.ntmps176
 go_wp2_with (go_at_call 114; refine (hr).mono ?_; rintro e w' ⟨rfl, rfl⟩)
 refine bodyPost_ret (v := .tuple #[updV ⟨0, [], [], 0⟩, .string (S []), .bool false]) (by simp [results, Tryz.results176, go_sem, updV]; rfl) rfl ⟨⟨_, _, rfl⟩, by go_grown⟩
theorem first_cons (b : UInt8) (r : List UInt8) (hl : r.length ≤ 900000) (w : World) :
  Calls Tryz.prog 176 #[.string (S (b :: r))] w fun e w' => FirstRes (stepU (b :: r)) e ∧ Below w.heap.size w w' := by
 have hr := read_byte (some ⟨w.heap.size + 1, 0, none⟩) 1 b r _ (intsW_at (w.alloc ResBox) _ (by simp) #[.int .i64 1] 3 [(1, b.toNat)] rfl) (by omega)
 have hb256 := b.toNat_lt
 have hs1 := fun W => split_any r (by omega) W
 unfold splitV at hs1
 have hst : stepU (b :: r) = if (splitL r).2.2 then (match restU b (splitL r).1 (splitL r).2.1 with | none => none | some (u, m) => if u.check = 0 then some (u, m) else none) else none := rfl
 have hq1 := (splitL_len r).1
 generalize splitL r = p1 at *
 obtain ⟨key, more, ok⟩ := p1
 dsimp only at hs1 hst hq1
 have HS1 := Lib.hid hs1
 have HST := Lib.hid hst
 have HR := Lib.hid hr
 clear hs1 hst hr
 go_enter Tryz.func176, Tryz.ntmps176
 go_wp2_with fail
 refine (thread HR.out (w.heap.size + 1) (w.alloc ResBox) (by go_grown) (by go_grown)).mono ?_
 rintro e w1 ⟨⟨ao, c, rfl, hN⟩, hB1, -, -, -, hz1⟩
 obtain ⟨bN, oN, rfl, hbN, hcN⟩ := hN.at (by simp)
 have hc0 := hcN 0 (by simp) 0 _ rfl
 simp only [Nat.mul_one, Nat.add_zero, List.getElem_cons_zero] at hc0
 clear hcN hN HR
 have hbm : ((b.toNat : Int) % 256) = (b.toNat : Int) := by omega
 go_wp2_with fail
 refine (thread (HS1.out _) w1.heap.size w1 (by go_grown) (by go_grown)).mono ?_
 rintro e w2 ⟨rfl, hX2, hk2, hf2, hs2, hz2⟩
 have hu1 : w1.heap.size < w2.heap.size := by simp at hs2; omega
 have hU : UAt w2 w1.heap.size ⟨b.toNat, [], [], 0⟩ := ⟨(hk2 w1.heap.size 0 (by simp)).trans (by simp), (hk2 w1.heap.size 1 (by simp)).trans (by simp; rfl), (hk2 w1.heap.size 2 (by simp)).trans (by simp; rfl), (hk2 w1.heap.size 3 (by simp)).trans (by simp), fun i => (hf2 w1.heap.size i (by simp)).trans (by simp), hu1⟩
 have hBx := hB1.trans (hX2.mono hz1)
 have hR : UAt w2 w.heap.size ⟨0, [], [], 0⟩ := UAt.on (UAt.new w 39) (hBx.mono (Nat.le_refl _)) (Nat.lt_succ_self _)
 have hB2 : Below w.heap.size w w2 := (Below.alloc (Below.refl _ w) (Nat.le_refl _) ResBox).trans (hBx.mono (Nat.le_succ _))
 have hne : w1.heap.size ≠ w.heap.size := by omega
 clear hk2 hf2 hs2 hX2 hBx hB1 hc0
 have hUk := (hU.setKey key)
 have hRk := hR.far (p := ⟨w1.heap.size, 1, none⟩) hne (.string (S key))
 have hBk := hB2.setCell (p := ⟨w1.heap.size, 1, none⟩) (by show w.heap.size ≤ w1.heap.size; omega) (.string (S key))
 have hzk : w1.heap.size < (w2.setCell ⟨w1.heap.size, 1, none⟩ (.string (S key))).heap.size := by rw [World.size_setCell]; exact hu1
 cases ok with
 | false =>
  have hst2 : stepU (b :: r) = none := HST.out.trans rfl
  have HST2 := Lib.hid hst2
  have HBK := Lib.hid hBk
  obtain ⟨r0, r1, r2, r3, rf, -⟩ := hR
  obtain ⟨-, u1, -, -, uf, -⟩ := hU
  have u1f := uf 1
  have rf0 := rf 0
  have rf1 := rf 1
  have rf2 := rf 2
  have rf3 := rf 3
  clear hst2 HST hUk hRk hzk hBk uf rf
  go_wp2_with fail
  refine bodyPost_ret (v := .tuple #[updV ⟨0, [], [], 0⟩, .string (S []), .bool false]) (by simp [results, Tryz.results176, go_sem, updV, r0, r1, r2, r3]; rfl) rfl ⟨?_, ?_⟩
  ·rw [HST2.out]
   exact ⟨_, _, rfl⟩
  ·exact ((((HBK.out).setCell (p := ⟨w.heap.size, 0, none⟩) (Nat.le_refl _) _).setCell (p := ⟨w.heap.size, 1, none⟩) (Nat.le_refl _) _).setCell (p := ⟨w.heap.size, 2, none⟩) (Nat.le_refl _) _).setCell (p := ⟨w.heap.size, 3, none⟩) (Nat.le_refl _) _
 | true =>
  have hst2 : stepU (b :: r) = (match restU b key more with | none => none | some (u, m) => if u.check = 0 then some (u, m) else none) := HST.out.trans rfl
  have HST2 := Lib.hid hst2
  obtain ⟨u0, u1, -, -, uf, -⟩ := hU
  have u1f := uf 1
  dsimp only at u0
  clear hst2 HST uf
  go_upto_region 8 with (fail)
  go_upto_block 0 with (fail)
  generalize w2.setCell ⟨w1.heap.size, 1, none⟩ (.string (S key)) = W at *
  go_cut [0, 6] (fun s t wx => ∃ (x : Upd) (m : List UInt8) (o : Bool), s = .string (S m) ∧ t = .bool o ∧ UAt wx w1.heap.size x ∧ UAt wx w.heap.size ⟨0, [], [], 0⟩ ∧ x.Wf ∧ RestIs (restU b key more) x m o ∧ Below w.heap.size w wx)
  case first =>
   have HBK := Lib.hid hBk
   have HRK := Lib.hid hRk
   have HUK := Lib.hid hUk
   obtain ⟨k0, k1, k2, k3, kf, -⟩ := hUk
   have k2f := kf 2
   have k3f := kf 3
   dsimp only at k0
   clear hBk hRk kf k1 u0 u1 u1f hB2 hR
   by_cases h1 : b.toNat = 1
   ·have h1' : ((b.toNat : Int) == 1) = true := by simp [h1]
    have hre : restU b key more = (if (splitL more).2.2 then some (⟨1, key, (splitL more).1, 0⟩, (splitL more).2.1) else none) := by unfold restU; rw [if_pos h1]
    have hs2 := fun W => split_any more (by omega) W
    unfold splitV at hs2
    generalize splitL more = p2 at *
    obtain ⟨val, m2, is⟩ := p2
    dsimp only at hs2 hre
    have HS2 := Lib.hid hs2
    have HRE := Lib.hid hre
    have H1 := Lib.hid h1
    clear hs2 hre h1
    go_wp2_with fail
    refine (thread (HS2.out _) W.heap.size W (Below.refl _ _) (Nat.le_refl _)).mono ?_
    rintro e w3 ⟨rfl, hX3, hk3, hf3, -, hz3⟩
    have k2 := (hk3 w1.heap.size 2 hzk).trans k2
    have k2f := (hf3 w1.heap.size 2 hzk).trans k2f
    have hU3 := (HUK.out.on hX3 hzk)
    have hR3 := (HRK.out.on hX3 (by omega))
    have HB3 := Lib.hid (HBK.out.trans (hX3.mono (by omega)))
    have HU3 := Lib.hid (hU3.setVal val)
    have HR3 := Lib.hid (hR3.far (p := ⟨w1.heap.size, 2, none⟩) hne (.string (S val)))
    clear hU3 hR3 hX3 hk3 hf3 k0 k3 k3f
    go_wp2_with fail
    go_meet
    refine ⟨_, m2, is, rfl, rfl, HU3.out, HR3.out, ⟨hb256, by show (0 : Nat) < _; decide⟩, ?_, HB3.out.setCell (p := ⟨w1.heap.size, 2, none⟩) (by show w.heap.size ≤ w1.heap.size; omega) _⟩
    rw [HRE.out]
    cases is with
    | true => exact ⟨rfl, by simp only [H1.out], rfl⟩
    | false => exact rfl
   ·have h1' : ((b.toNat : Int) == 1) = false := by simp; omega
    by_cases h3 : b.toNat = 3
    ·have h3' : ((b.toNat : Int) == 3) = true := by simp [h3]
     have hre : restU b key more = (if more.length < 8 then none else some (⟨3, key, [], numL (more.take 8)⟩, more.drop 8)) := by unfold restU; rw [if_neg h1, if_pos h3]
     have H3 := Lib.hid h3
     by_cases h8 : more.length < 8
     ·rw [if_pos h8] at hre
      have HRE := Lib.hid hre
      have hr := read_short (some ⟨W.heap.size, 0, none⟩) 1 [(8, 0)] more _ (intsW_at W _ rfl #[.int .i64 8] 3 [(8, 0)] rfl) (wide1 8 0 (by decide) (by decide)) (by simp) (by simpa [sumW] using h8)
      have HRD := Lib.hid hr
      clear hre hr h8 h3 h1
      go_wp2_with (go_at_call 114; refine (HRD.out).mono ?_; rintro e w' ⟨rfl, rfl⟩)
      go_meet
      exact ⟨_, [], false, rfl, rfl, HUK.out.on ((Below.refl _ W).alloc (Nat.le_refl _) _) hzk, HRK.out.on ((Below.refl _ W).alloc (Nat.le_refl _) _) (by omega), ⟨hb256, by show (0 : Nat) < _; decide⟩, by rw [HRE.out]; exact rfl, HBK.out.alloc (by omega) _⟩
     ·rw [if_neg h8] at hre
      have HRE := Lib.hid hre
      have hr := read_eight (some ⟨W.heap.size, 0, none⟩) 1 more _ (by omega) (intsW_at W _ rfl #[.int .i64 8] 3 [(8, numL (more.take 8))] rfl) (by omega)
      have HN8 := Lib.hid (numL_take more (by omega))
      generalize numL (more.take 8) = D at *
      generalize more.drop 8 = rest at *
      have HRD := Lib.hid hr
      clear hre hr h3 h1
      go_wp2_with fail
      refine (thread HRD.out W.heap.size W (by go_grown) (by go_grown)).mono ?_
      rintro e w3 ⟨⟨ao3, c3', rfl, hN⟩, hX3, -, -, -, hz3⟩
      obtain ⟨b3, o3, rfl, hb3, hcN⟩ := hN.at (by simp)
      have n0 := hcN 0 (by simp) 0 _ rfl
      simp only [Nat.mul_one, Nat.add_zero, List.getElem_cons_zero] at n0
      have hU3 := (HUK.out.on hX3 hzk)
      have hR3 := (HRK.out.on hX3 (by omega))
      have k3 := hU3.c3
      have k3f := hU3.free 3
      dsimp only at k3
      have HB3 := Lib.hid (HBK.out.trans (hX3.mono (by omega)))
      have HU3 := Lib.hid (hU3.setDelta D)
      have HR3 := Lib.hid (hR3.far (p := ⟨w1.heap.size, 3, none⟩) hne (.int .u64 D))
      clear hU3 hR3 hX3 hcN hN k0 k2 k2f
      go_wp2_with fail
      go_meet
      refine ⟨_, rest, true, rfl, rfl, HU3.out, HR3.out, ⟨hb256, HN8.out⟩, ?_, HB3.out.setCell (p := ⟨w1.heap.size, 3, none⟩) (by show w.heap.size ≤ w1.heap.size; omega) _⟩
      rw [HRE.out]
      exact ⟨rfl, by simp only [H3.out], rfl⟩
    ·have h3' : ((b.toNat : Int) == 3) = false := by simp; omega
     have HRE := Lib.hid (show restU b key more = some (⟨b.toNat, key, [], 0⟩, more) by unfold restU; rw [if_neg h1, if_neg h3])
     go_wp2_with fail
     go_meet
     exact ⟨_, more, true, rfl, rfl, HUK.out, HRK.out, ⟨hb256, by show (0 : Nat) < _; decide⟩, by rw [HRE.out]; exact ⟨rfl, rfl, rfl⟩, HBK.out⟩
  case rest =>
   obtain ⟨x, m, o, rfl, rfl, hUx, hRx, hwf, hRI, hBx⟩ := hcut
   have HWF := Lib.hid hwf
   have HB := Lib.hid hBx
   obtain ⟨x0, x1, x2, x3, -, hxl⟩ := hUx
   obtain ⟨r0, r1, r2, r3, rf, hrl⟩ := hRx
   have rf0 := rf 0
   have rf1 := rf 1
   have rf2 := rf 2
   have rf3 := rf 3
   dsimp only at r0 r1 r2 r3
   clear hUk hRk hBk hzk u0 u1 u1f rf hbm
   cases o with
   | false =>
    have hst3 : stepU (b :: r) = none := by
     rw [HST2.out]
     cases hr : restU b key more with
     | none => rfl
     | some p => rw [hr] at hRI; exact absurd hRI.1 (by simp)
    have HST3 := Lib.hid hst3
    clear hst3 hRI hwf hBx
    go_wp2_with fail
    go_big_region
    all_goals
     go_wp2_with fail
     refine bodyPost_ret (v := .tuple #[updV x, .string (S m), .bool false]) (by simp [results, Tryz.results176, go_sem, updV, r0, r1, r2, r3]) rfl ⟨?_, ?_⟩
     ·rw [HST3.out]
      exact ⟨_, _, rfl⟩
     ·first | exact ((((HB.out).setCell (p := ⟨w.heap.size, 0, none⟩) (Nat.le_refl _) _).setCell (p := ⟨w.heap.size, 1, none⟩) (Nat.le_refl _) _).setCell (p := ⟨w.heap.size, 2, none⟩) (Nat.le_refl _) _).setCell (p := ⟨w.heap.size, 3, none⟩) (Nat.le_refl _) _ | exact below_drew' (((((HB.out).setCell (p := ⟨w.heap.size, 0, none⟩) (Nat.le_refl _) _).setCell (p := ⟨w.heap.size, 1, none⟩) (Nat.le_refl _) _).setCell (p := ⟨w.heap.size, 2, none⟩) (Nat.le_refl _) _).setCell (p := ⟨w.heap.size, 3, none⟩) (Nat.le_refl _) _)
   | true =>
    have hst3 : stepU (b :: r) = if (Upd.mk x.kind x.key x.val x.delta).check = 0 then some (x, m) else none := by
     rw [HST2.out]
     cases hr : restU b key more with
     | none => rw [hr] at hRI; exact absurd hRI (by simp [RestIs])
     | some p => rw [hr] at hRI; obtain ⟨-, rfl, rfl⟩ := hRI; rfl
    have HST3 := Lib.hid hst3
    have HCK := Lib.hid (fun W => chk x.kind x.key x.val x.delta HWF.out.1 HWF.out.2 W)
    generalize (Upd.mk x.kind x.key x.val x.delta).check = ck at *
    clear hRI hwf hBx
    by_cases hc0 : ck = 0
    ·have hcb : ((ck : Int) == 0) = true := by simp [hc0]
     have HST4 := Lib.hid (show stepU (b :: r) = some (x, m) by rw [hst3, if_pos hc0])
     clear hst3 HST3 hc0
     go_wp2_with fail
     go_region_law (first | (go_simp; go_at_call 38; refine (HCK.out _).mono ?_; rintro e w4 ⟨rfl, hb4⟩; have y0 := kept_cell hb4 (cell_drew x0); have y1 := kept_cell hb4 (cell_drew x1); have y2 := kept_cell hb4 (cell_drew x2); have y3 := kept_cell hb4 (cell_drew x3); have z0 := kept_cell hb4 (cell_drew r0); have z1 := kept_cell hb4 (cell_drew r1); have z2 := kept_cell hb4 (cell_drew r2); have z3 := kept_cell hb4 (cell_drew r3); have zf0 := (hb4.frozen (p := ⟨w.heap.size, 0, none⟩) hrl).trans rf0; have zf1 := (hb4.frozen (p := ⟨w.heap.size, 1, none⟩) hrl).trans rf1; have zf2 := (hb4.frozen (p := ⟨w.heap.size, 2, none⟩) hrl).trans rf2; have zf3 := (hb4.frozen (p := ⟨w.heap.size, 3, none⟩) hrl).trans rf3; have hB4 := (below_drew' HB.out).trans (hb4.mono HB.out.size); clear hb4))
     all_goals
      go_wp2_with fail
      refine bodyPost_ret (v := .tuple #[updV x, .string (S m), .bool true]) (by simp [results, Tryz.results176, go_sem, updV, z0, z1, z2, z3]) rfl ⟨?_, ?_⟩
      ·rw [HST4.out]
       exact rfl
      ·exact (((hB4.setCell (p := ⟨w.heap.size, 0, none⟩) (Nat.le_refl _) _).setCell (p := ⟨w.heap.size, 1, none⟩) (Nat.le_refl _) _).setCell (p := ⟨w.heap.size, 2, none⟩) (Nat.le_refl _) _).setCell (p := ⟨w.heap.size, 3, none⟩) (Nat.le_refl _) _
    ·have hcb : ((ck : Int) == 0) = false := by simp; omega
     have HST4 := Lib.hid (show stepU (b :: r) = none by rw [hst3, if_neg hc0])
     clear hst3 HST3 hc0
     go_wp2_with fail
     go_region_law (first | (go_simp; go_at_call 38; refine (HCK.out _).mono ?_; rintro e w4 ⟨rfl, hb4⟩; have y0 := kept_cell hb4 (cell_drew x0); have y1 := kept_cell hb4 (cell_drew x1); have y2 := kept_cell hb4 (cell_drew x2); have y3 := kept_cell hb4 (cell_drew x3); have z0 := kept_cell hb4 (cell_drew r0); have z1 := kept_cell hb4 (cell_drew r1); have z2 := kept_cell hb4 (cell_drew r2); have z3 := kept_cell hb4 (cell_drew r3); have zf0 := (hb4.frozen (p := ⟨w.heap.size, 0, none⟩) hrl).trans rf0; have zf1 := (hb4.frozen (p := ⟨w.heap.size, 1, none⟩) hrl).trans rf1; have zf2 := (hb4.frozen (p := ⟨w.heap.size, 2, none⟩) hrl).trans rf2; have zf3 := (hb4.frozen (p := ⟨w.heap.size, 3, none⟩) hrl).trans rf3; have hB4 := (below_drew' HB.out).trans (hb4.mono HB.out.size); clear hb4))
     all_goals
      go_wp2_with fail
      refine bodyPost_ret (v := .tuple #[updV x, .string (S m), .bool false]) (by simp [results, Tryz.results176, go_sem, updV, z0, z1, z2, z3]) rfl ⟨?_, ?_⟩
      ·rw [HST4.out]
       exact ⟨_, _, rfl⟩
      ·exact (((hB4.setCell (p := ⟨w.heap.size, 0, none⟩) (Nat.le_refl _) _).setCell (p := ⟨w.heap.size, 1, none⟩) (Nat.le_refl _) _).setCell (p := ⟨w.heap.size, 2, none⟩) (Nat.le_refl _) _).setCell (p := ⟨w.heap.size, 3, none⟩) (Nat.le_refl _) _
theorem first_any (s : List UInt8) (hl : s.length ≤ 900000) (w : World) :
  Calls Tryz.prog 176 #[.string (S s)] w fun e w' => FirstRes (stepU s) e ∧ Below w.heap.size w w' := by
 cases s with
 | nil => exact first_nil w
 | cons b r => exact first_cons b r (by rw [List.length_cons] at hl; omega) w
open Go.RowKit
attribute [local go_sem ↓] Go.wp_at_zero Go.wp_at_succ
def RecRes (B : Nat) (E : TypeId) (p : List Upd × Nat) (e : Ending) (w' : World) : Prop :=
 ∃ a c, e = .returned (.tuple #[.slice a p.1.length c, .int .i64 p.2]) ∧ w'.ownsRow B E 4 (.slice a p.1.length c) p.1.length (cellsU p.1)
theorem RecRes.none (B : Nat) (E : TypeId) (n : Nat) (w' : World) (e : Ending) (he : e = .returned (.tuple #[.slice none 0 0, .int .i64 n])) : RecRes B E ([], n) e w' := ⟨Option.none, 0, he, World.ownsRow_nil _ _ _ _⟩
theorem recU_none {s : List UInt8} (h : rawU s = none) : recU s = ([], 4) := by simp [recU, h]
theorem recU_some {s : List UInt8} {l : List Upd} (h : rawU s = some l) : recU s = (l, 0) := by simp [recU, h]
theorem cell_four_at' (w : World) (b : Nat) (hb : w.heap.size = b) (x y z u : Value) (t : TypeId) : ∀ j v, [x, y, z, u][j]? = some v → (w.alloc (.cells #[x, y, z, u] t)).cell? ((⟨b, 0, none⟩ : Addr).add j) = some v := by
 subst hb
 exact cell_four_new w x y z u t
theorem recParse_any (s0 : List UInt8) (hl : s0.length ≤ 900000) (w : World) :
  Calls Tryz.prog 154 #[.string (S s0)] w fun e w' => RecRes w.heap.size 39 (recU s0) e w' ∧ Below w.heap.size w w' := by
 obtain ⟨i0, hi, iz0, iz1, iz2⟩ := info_parts infoU
 have HE0 := Lib.hid (fun h : rawU s0 = none => recU_none h)
 have HE1 := Lib.hid (fun (l : List Upd) (h : rawU s0 = some l) => recU_some h)
 generalize recU s0 = P at *
 go_enter Tryz.func154, Tryz.ntmps154
 go_wp2_with fail
 go_loopw [0, 4] (fun s v wr => ∃ (t : List UInt8) (acc : List Upd), s = .string (S t) ∧ t.length + acc.length ≤ s0.length ∧ Hid (rawU s0 = (rawU t).map fun l => acc ++ l) ∧ wr.ownsRow w.heap.size 39 4 v acc.length (cellsU acc) ∧ Below w.heap.size w wr) (fun s _ _ => match s with | .string x => x.size | _ => 0)
 case atStart => exact ⟨s0, [], rfl, by simp, Lib.hid (by simp), World.ownsRow_nil _ _ _ _, by go_grown⟩
 case round =>
  obtain ⟨t, acc, rfl, hlen, hR, hown, hB⟩ := hrel
  obtain ⟨av, ac, ea⟩ := own_form hown
  subst ea
  have HO := Lib.hid hown
  cases t with
  | nil =>
   have HP := Lib.hid (HE1.out acc (rawU_end hR.out))
   clear hown hR
   go_wp2_with fail
   refine bodyPost_ret (v := .tuple #[.slice av acc.length ac, .int .i64 0]) (by simp [results, Tryz.results154, go_sem]) rfl ⟨?_, hB⟩
   rw [HP.out]
   exact ⟨av, ac, rfl, HO.out⟩
  | cons b r =>
   have hl0 : (S (b :: r)).size = r.length + 1 := by rw [S_size]; rfl
   rw [List.length_cons] at hlen
   have hfa := fun W => first_any (b :: r) (by rw [List.length_cons]; omega) W
   clear hown
   cases hst : stepU (b :: r) with
   | none =>
    rw [hst] at hfa
    have HFA := Lib.hid hfa
    have HP := Lib.hid (HE0.out (rawU_stop hR.out (by simp) hst))
    clear hfa hst hR
    go_wp2_with fail
    refine (thread (HFA.out _) wr.heap.size wr (by go_grown) (by go_grown)).mono ?_
    rintro e w1 ⟨⟨x, y, rfl⟩, hX1, -, -, -, hz1⟩
    have hB1 := hB.trans (hX1.mono hB.size)
    have hz2 : w.heap.size ≤ w1.heap.size := hB1.size
    simp only [updV]
    clear hX1
    go_wp2_with fail
    refine bodyPost_ret (v := .tuple #[.slice none 0 0, .int .i64 4]) (by simp [results, Tryz.results154, go_sem]) rfl ⟨?_, hB1.alloc hz2 _⟩
    rw [HP.out]
    exact RecRes.none _ _ _ _ _ rfl
   | some p =>
    obtain ⟨u, m⟩ := p
    rw [hst] at hfa
    have HFA := Lib.hid (fun W => (hfa W).mono (fun e w' (h : FirstRes (some (u, m)) e ∧ Below W.heap.size W w') => (⟨h.1, h.2⟩ : e = .returned (.tuple #[.agg #[.int .u8 u.kind, .string (S u.key), .string (S u.val), .int .u64 u.delta], .string (S m), .bool true]) ∧ Below W.heap.size W w')))
    have HN := Lib.hid (rawU_more hR.out (by simp) hst)
    have hml := stepU_len hst
    rw [List.length_cons] at hml
    clear hfa hst hR
    go_wp2_with fail
    refine (thread (HFA.out _) wr.heap.size wr (by go_grown) (by go_grown)).mono ?_
    rintro e w1 ⟨rfl, hX1, -, -, -, hz1⟩
    have HO1 := Lib.hid (own_below HO.out hX1)
    have hB1 := hB.trans (hX1.mono hB.size)
    have hz := hB1.size
    clear hX1 HFA
    go_wp2_with (at_builtin; go_must (refine wpList_append_own_at _ rfl _ _ 101 rfl w.heap.size 39 i0 (.agg #[.int .u8 0, .string ByteArray.empty, .string ByteArray.empty, .int .u64 0]) 4 48 Tryz.underlying101 hi iz0 iz1 iz2 rfl (by decide) _ acc.length _ rfl ((HO1.out.alloc _).alloc _) ⟨w1.heap.size + 1, 0, none⟩ 1 1 [.int .u8 u.kind, .string (S u.key), .string (S u.val), .int .u64 u.delta] rfl rfl (cell_four_at' _ _ (by simp) _ _ _ _ _) (four_oneCell _ _ _ _) (by unfold maxLen; omega) (by omega) (by simp; omega) ?_; intro vz wz hownz hgrowz _ _))
    go_roundw
    (case rel => exact (⟨m, acc ++ [u], rfl, by rw [List.length_append, List.length_singleton]; omega, HN, by rw [cellsU_snoc, List.length_append, List.length_singleton]; exact hownz, below_grown ((hB1.alloc hz _).alloc (by simp; omega) _) hgrowz (fun k e => (HO1.out.lt k e).1) (by simp; omega)⟩))
    (case measure => simp [S_size]; omega)
open Go.RowKit
open Go.RowKit
theorem refSplit_any (s : List UInt8) (hs : s.length ≤ 1000000) (w : World) : Calls Tryz.prog 60 #[.string (S s)] w fun e w' => e = .returned (splitV s) ∧ Below w.heap.size w w' := by
 cases s with
 | nil =>
  go_enter Tryz.func60, Tryz.ntmps60
  go_wp2_with fail
  go_ret3
  exact ⟨rfl, Below.refl _ _⟩
 | cons b r =>
  have hb : (b.toNat : Int) < 256 := by have := b.toNat_lt; omega
  have hl : (S (b :: r)).size = r.length + 1 := by rw [S_size]; rfl
  rw [List.length_cons] at hs
  by_cases h : r.length < b.toNat
  ·have h' : (r.length : Int) + 1 < 1 + (b.toNat : Int) := by omega
   have hv : Hid (splitV (b :: r) = .tuple #[.string ByteArray.empty, .string ByteArray.empty, .bool false]) := Lib.hid (by simp only [splitV, splitL, if_pos h]; rfl)
   clear h
   go_enter Tryz.func60, Tryz.ntmps60
   go_wp2_with fail
   go_ret3
   exact ⟨ret_val (by rw [hv.out]; rfl), Below.refl _ _⟩
  ·have h' : ¬ (r.length : Int) + 1 < 1 + (b.toNat : Int) := by omega
   have h2 : (b.toNat : Int) ≤ (r.length : Int) := by omega
   have hv : Hid (splitV (b :: r) = .tuple #[.string (S (r.take b.toNat)), .string (S (r.drop b.toNat)), .bool true]) := Lib.hid (by simp only [splitV, splitL, if_neg h])
   clear h
   go_enter Tryz.func60, Tryz.ntmps60
   go_wp2_with fail
   go_region
   go_wp2_with fail
   go_ret3
   refine ⟨ret_val ?_, by go_grown⟩
   rw [hv.out]
   show Value.tuple #[.string (S (List.take (1 + b.toNat - 1) r)), .string (S (List.take (r.length + 1 - (1 + b.toNat)) (List.drop (1 + b.toNat) (b :: r)))), .bool true] = _
   rw [Nat.add_sub_cancel_left, Nat.add_comm 1, List.drop_succ_cons, List.take_of_length_le (l := List.drop b.toNat r) (by rw [List.length_drop]; omega)]
open Go.RowKit
attribute [local go_sem ↓] Go.wp_at_zero Go.wp_at_succ
open Go.RowKit
attribute [local go_sem ↓] Go.wp_at_zero Go.wp_at_succ
theorem rising_not {α : Type} {key : α → List UInt8} {l : List α} {j : Nat} (h : ¬ Rising key (l.take j)) : ¬ Rising key l := fun hr => h (hr.sublist (List.take_sublist j l))
theorem rising_one {α : Type} {key : α → List UInt8} (l : List α) : Rising key (l.take 1) := by
 cases l with
 | nil => exact List.Pairwise.nil
 | cons a t => exact List.pairwise_singleton _ _
theorem rising_step {α : Type} {key : α → List UInt8} (l : List α) (q : Nat) (hq : q + 1 < l.length) (h : Rising key (l.take (q + 1))) : Rising key (l.take (q + 2)) ↔ bl (key (l[q]'(by omega))) (key l[q + 1]) = true := by
 rw [show q + 2 = (q + 1) + 1 from rfl, List.take_succ_eq_append_getElem hq]
 constructor
 ·intro h2
  have h3 := (List.pairwise_append.1 h2).2.2
  refine h3 (l[q]'(by omega)) ?_ l[q + 1] (List.mem_singleton.2 rfl)
  rw [List.mem_take_iff_getElem]
  exact ⟨q, by omega, rfl⟩
 ·intro h2
  refine List.pairwise_append.2 ⟨h, by simp, fun a ha b hb => ?_⟩
  rw [List.mem_singleton] at hb
  subst hb
  obtain ⟨i, hi, rfl⟩ := List.mem_take_iff_getElem.1 ha
  by_cases e : i = q
  ·subst e; exact h2
  ·have h4 := Rising.lt h (show i < q by omega) (by rw [List.length_take]; omega)
   simp only [List.getElem_take] at h4
   exact bl_trans h4 h2
def BfRes (B : Nat) (p : List Upd × Nat) (e : Ending) (w' : World) : Prop :=
 ∃ a c, e = .returned (.tuple #[.agg #[.slice a p.1.length c], .int .i64 p.2]) ∧ w'.ownsRow B 39 4 (.slice a p.1.length c) p.1.length (cellsU p.1)
theorem BfRes.none (B : Nat) (n : Nat) (w' : World) (e : Ending) (he : e = .returned (.tuple #[.agg #[.slice none 0 0], .int .i64 n])) : BfRes B ([], n) e w' := ⟨Option.none, 0, he, World.ownsRow_nil _ _ _ _⟩
def ofU (l : List Upd) : List Upd × Nat := if risingB l then (l, 0) else ([], 2)
theorem ofU_yes {l : List Upd} (h : Rising Upd.key l) : ofU l = (l, 0) := by unfold ofU; rw [if_pos ((risingB_iff l).2 h)]
theorem ofU_no {l : List Upd} (h : ¬ Rising Upd.key l) : ofU l = ([], 2) := by unfold ofU; rw [if_neg (fun k => h ((risingB_iff l).1 k))]
theorem bufOf_any (ao : Option Addr) (n c : Nat) (l : List Upd) (w : World) (hn : n = l.length) (hl : l.length ≤ 1000000) (hs : SlU w (.slice ao n c) l) :
  Calls Tryz.prog 155 #[.slice ao n c] w fun e w' => BfRes w.heap.size (ofU l) e w' ∧ Below w.heap.size w w' := by
 subst hn
 have HY := Lib.hid (fun h : Rising Upd.key l => ofU_yes h)
 have HNO := Lib.hid (fun h : ¬ Rising Upd.key l => ofU_no h)
 have HS := Lib.hid hs
 generalize ofU l = R at *
 obtain ⟨ao', c', e', hs0, -⟩ := hs
 simp only [Value.slice.injEq] at e'
 obtain ⟨rfl, -, rfl⟩ := e'
 have HS0 := Lib.hid hs0
 clear hs0
 go_enter Tryz.func155, Tryz.ntmps155
 go_wp2_with fail
 go_loopw [4] (fun i wr => ∃ q : Nat, i = .int .i64 (q + 1 : Nat) ∧ (q + 1 ≤ l.length ∨ q = 0) ∧ Hid (Rising Upd.key (l.take (q + 1))) ∧ wr.cell? ⟨w.heap.size, 0, none⟩ = some (.slice none 0 0) ∧ wr.frozen? ⟨w.heap.size, 0, none⟩ = false ∧ w.heap.size < wr.heap.size ∧ Below w.heap.size w wr) (fun i _ => l.length - (intOf i).toNat)
 case atStart => exact ⟨0, rfl, Or.inr rfl, Lib.hid (rising_one l), by simp, by simp, by simp, by go_grown⟩
 case round =>
  obtain ⟨q, rfl, hj, hR, hp, hpf, hsz, hB⟩ := hrel
  have hq0 : (0 : Int) ≤ (q : Int) := Int.natCast_nonneg _
  rw [show ((q + 1 : Nat) : Int) = (q : Int) + 1 from rfl]
  by_cases hjl : q + 1 < l.length
  ·have hj1 : (q : Int) + 1 < (l.length : Int) := by omega
   have hst := Lib.hid (rising_step l q hjl hR.out)
   have hno : Hid (¬ Rising Upd.key (l.take (q + 2)) → R = ([], 2)) := Lib.hid fun h => HNO.out (rising_not h)
   obtain ⟨b, off, rfl, hb, -, t1, -, -⟩ := SlAt.cells4 HS0.out (q + 1) hjl
   obtain ⟨b', off', e', hb', -, t1', -, -⟩ := SlAt.cells4 HS0.out q (by omega)
   simp only [Option.some.injEq, Addr.mk.injEq] at e'
   obtain ⟨rfl, rfl, -⟩ := e'
   have q1 := (cell_below hB hb _).trans t1
   have q2 := (cell_below hB hb _).trans t1'
   have hq1 : (q : Int) < (l.length : Int) := by omega
   have hw1 : IntKind.i64.wrap (q : Int) = (q : Int) := IntWalk.i64_in _ (by omega)
   have hw2 : IntKind.i64.wrap ((q : Int) + 1 - 1) = (q : Int) := by rw [show (q : Int) + 1 - 1 = (q : Int) by omega]; exact hw1
   clear t1 t1'
   cases hlt : bl l[q].key l[q + 1].key with
   | true =>
    have hR2 := Lib.hid (hst.out.2 hlt)
    clear hst hno
    have hlt' : Op.bytesLess l[q].key l[q + 1].key = true := hlt
    clear hlt
    generalize l[q + 1] = u at *
    generalize l[q] = u' at *
    go_wp2_with fail
    go_quiet (fail)
    go_wp2_with fail
    have hBn : Below wr.heap.size wr (wr.drewN nq) := below_drewN (Below.refl _ _) _
    exact ⟨⟨q + 1, by go_num, Or.inl (by omega), hR2, hp, hpf, hsz, hB.trans (hBn.mono (by omega))⟩, by simp [intOf]; omega⟩
   | false =>
    have hbf := Lib.hid (hno.out (fun h => by have h2 := hst.out.1 h; rw [hlt] at h2; exact absurd h2 (by simp)))
    clear hst hno
    have hlt' : Op.bytesLess l[q].key l[q + 1].key = false := hlt
    clear hlt
    generalize l[q + 1] = u at *
    generalize l[q] = u' at *
    go_wp2_with fail
    go_quiet (fail)
    go_wp2_with fail
    have hBn : Below w.heap.size w (wr.drewN nq) := below_drewN hB _
    refine bodyPost_ret (v := .tuple #[.agg #[.slice none 0 0], .int .i64 2]) (by simp [results, Tryz.results155, go_sem, hp]) rfl ⟨?_, ?_⟩
    ·rw [hbf.out]
     exact BfRes.none _ _ _ _ rfl
    ·exact hBn.setCell (p := ⟨w.heap.size, 0, none⟩) (Nat.le_refl _) _
  ·have hjn : ¬ (q : Int) + 1 < (l.length : Int) := by omega
   have hbt := Lib.hid (HY.out (by have h := hR.out; rwa [List.take_of_length_le (by omega)] at h))
   have HS2 := Lib.hid (HS.out.kept hB (Nat.le_refl _))
   go_wp2_with fail
   refine (thread (cloneU _ l wr HS2.out hl) wr.heap.size wr (Below.refl _ _) (Nat.le_refl _)).mono ?_
   rintro e w1 ⟨⟨v1, rfl, hown1⟩, hX1, hk1, hf1, -, hz1⟩
   obtain ⟨a1, c1, e1⟩ := own_form hown1
   subst e1
   have p1 := (hk1 w.heap.size 0 hsz).trans hp
   have pf1 := (hf1 w.heap.size 0 hsz).trans hpf
   have hB1 := hB.trans (hX1.mono (by omega))
   have HO1 := Lib.hid hown1
   clear hk1 hf1 hX1 hp hpf hown1
   go_wp2_with fail
   refine bodyPost_ret (v := .tuple #[.agg #[.slice a1 l.length c1], .int .i64 0]) (by simp [results, Tryz.results155, go_sem, p1]) rfl ⟨?_, ?_⟩
   ·rw [hbt.out]
    exact ⟨a1, c1, rfl, own_base (ownsRow_setCell_other (a := ⟨w.heap.size, 0, none⟩) HO1.out (fun e => by have h2 : wr.heap.size ≤ w.heap.size := (HO1.out.lt _ e).1; omega) _) (by omega)⟩
   ·exact hB1.setCell (p := ⟨w.heap.size, 0, none⟩) (Nat.le_refl _) _
open Go.RowKit
attribute [local go_sem ↓] Go.wp_at_zero Go.wp_at_succ
theorem parseU_bad {s : List UInt8} (h : (recU s).2 = 4) : parseU s = ([], 4) := by rw [parseU_of, if_neg (by omega), h]
theorem parseU_wild {s : List UInt8} (h : (recU s).2 = 0) (k : risingB (recU s).1 = false) : parseU s = ([], 4) := by rw [parseU_of, if_pos h, if_neg (by simp [k])]
theorem parseU_good {s : List UInt8} (h : (recU s).2 = 0) (k : risingB (recU s).1 = true) : parseU s = ((recU s).1, 0) := by rw [parseU_of, if_pos h, if_pos k]
abbrev BufBox : Obj := .cells #[.slice none 0 0] 103
theorem bufParse_any (s0 : List UInt8) (hl : s0.length ≤ 900000) (w : World) :
  Calls Tryz.prog 116 #[.string (S s0)] w fun e w' => BfRes w.heap.size (parseU s0) e w' ∧ Below w.heap.size w w' := by
 have hrp := fun W => recParse_any s0 hl W
 have h2 := recU_two s0
 have hal := recU_all s0
 have hb := Lib.hid (@parseU_bad s0)
 have hw := Lib.hid (@parseU_wild s0)
 have hg := Lib.hid (@parseU_good s0)
 generalize recU s0 = Q at *
 generalize parseU s0 = P at *
 obtain ⟨L, n⟩ := Q
 dsimp only at h2 hal
 have HRP := Lib.hid hrp
 have hL : L.length ≤ 900000 := by omega
 clear hrp hal
 rcases h2 with rfl | ⟨rfl, rfl⟩
 ·have hof := Lib.hid (ofU_yes (l := L))
  have hon := Lib.hid (ofU_no (l := L))
  cases hr : risingB L with
  | true =>
   have HP := Lib.hid (hg.out rfl hr)
   have HF := Lib.hid (hof.out ((risingB_iff L).1 hr))
   clear hb hw hg hr hof hon
   go_enter Tryz.func116, Tryz.ntmps116
   go_wp2_with fail
   refine (thread (HRP.out _) (w.heap.size + 1) (w.alloc BufBox) (Below.refl _ _) (by simp)).mono ?_
   rintro e w1 ⟨⟨a1, c1, rfl, ho1⟩, hB1, -, -, -, hz1⟩
   dsimp only at ho1
   have hof1 := bufOf_any a1 L.length c1 L w1 rfl (by omega) (SlU.of_own ho1).2
   rw [HF.out] at hof1
   have HOF := Lib.hid hof1
   clear ho1 hof1 HRP
   have hz0 : w.heap.size < w1.heap.size := by omega
   go_wp2_with fail
   refine (thread HOF.out w1.heap.size w1 (Below.refl _ _) (Nat.le_refl _)).mono ?_
   rintro e w2 ⟨⟨a2, c2, rfl, ho2⟩, hX2, -, -, -, hz2⟩
   dsimp only at ho2
   have hB2 := hB1.trans (hX2.mono hz1)
   have p2 : w2.cell? ⟨w.heap.size, 0, none⟩ = some (.slice none 0 0) := (hB2.cell (p := ⟨w.heap.size, 0, none⟩) (Nat.lt_succ_self _)).trans (by simp)
   have pf2 : w2.frozen? ⟨w.heap.size, 0, none⟩ = false := (hB2.frozen (p := ⟨w.heap.size, 0, none⟩) (Nat.lt_succ_self _)).trans (by simp)
   have HO2 := Lib.hid ho2
   have HB2 := Lib.hid ((Below.alloc (Below.refl _ w) (Nat.le_refl _) BufBox).trans (hB2.mono (Nat.le_succ _)))
   have hlt2 : w.heap.size < w2.heap.size := by omega
   clear ho2 hB1 hB2 hX2 HOF
   go_wp2_with fail
   have pz := cell_past (.cells #[.slice a2 L.length c2] 103) (show (w2.setCell ⟨w.heap.size, 0, none⟩ (.slice a2 L.length c2)).cell? ⟨w.heap.size, 0, none⟩ = some (.slice a2 L.length c2) from World.cell?_setCell_same w2 _ _ p2)
   refine bodyPost_ret (v := .tuple #[.agg #[.slice a2 L.length c2], .int .i64 0]) (by simp [results, Tryz.results116, go_sem, pz]) rfl ⟨?_, ?_⟩
   ·rw [HP.out]
    exact ⟨a2, c2, rfl, own_base ((ownsRow_setCell_other (a := ⟨w.heap.size, 0, none⟩) HO2.out (fun e => by have h : w1.heap.size ≤ w.heap.size := (HO2.out.lt _ e).1; omega) _).alloc _) (by omega)⟩
   ·exact ((HB2.out).setCell (p := ⟨w.heap.size, 0, none⟩) (Nat.le_refl _) _).alloc (by rw [World.size_setCell]; omega) _
  | false =>
   have HP := Lib.hid (hw.out rfl hr)
   have HF := Lib.hid (hon.out (fun h => by rw [(risingB_iff L).2 h] at hr; exact absurd hr (by simp)))
   clear hb hw hg hr hof hon
   go_enter Tryz.func116, Tryz.ntmps116
   go_wp2_with fail
   refine (thread (HRP.out _) (w.heap.size + 1) (w.alloc BufBox) (Below.refl _ _) (by simp)).mono ?_
   rintro e w1 ⟨⟨a1, c1, rfl, ho1⟩, hB1, -, -, -, hz1⟩
   dsimp only at ho1
   have hof1 := bufOf_any a1 L.length c1 L w1 rfl (by omega) (SlU.of_own ho1).2
   rw [HF.out] at hof1
   have HOF := Lib.hid hof1
   clear ho1 hof1 HRP
   have hz0 : w.heap.size < w1.heap.size := by omega
   go_wp2_with fail
   refine (thread HOF.out w1.heap.size w1 (Below.refl _ _) (Nat.le_refl _)).mono ?_
   rintro e w2 ⟨⟨a2, c2, rfl, ho2⟩, hX2, -, -, -, hz2⟩
   have hB2 := hB1.trans (hX2.mono hz1)
   have p2 : w2.cell? ⟨w.heap.size, 0, none⟩ = some (.slice none 0 0) := (hB2.cell (p := ⟨w.heap.size, 0, none⟩) (Nat.lt_succ_self _)).trans (by simp)
   have pf2 : w2.frozen? ⟨w.heap.size, 0, none⟩ = false := (hB2.frozen (p := ⟨w.heap.size, 0, none⟩) (Nat.lt_succ_self _)).trans (by simp)
   have HB2 := Lib.hid ((Below.alloc (Below.refl _ w) (Nat.le_refl _) BufBox).trans (hB2.mono (Nat.le_succ _)))
   have hlt2 : w.heap.size < w2.heap.size := by omega
   clear ho2 hB1 hB2 hX2 HOF
   go_wp2_with fail
   have pz := fun o => cell_past o (show (w2.setCell ⟨w.heap.size, 0, none⟩ (.slice none 0 0)).cell? ⟨w.heap.size, 0, none⟩ = some (.slice none 0 0) from World.cell?_setCell_same w2 _ _ p2)
   refine bodyPost_ret (v := .tuple #[.agg #[.slice none 0 0], .int .i64 4]) (by simp [results, Tryz.results116, go_sem, pz]) rfl ⟨?_, ?_⟩
   ·rw [HP.out]
    exact BfRes.none _ _ _ _ rfl
   ·exact ((HB2.out).setCell (p := ⟨w.heap.size, 0, none⟩) (Nat.le_refl _) _).alloc (by rw [World.size_setCell]; omega) _
 ·have HP := Lib.hid (hb.out rfl)
  clear hb hw hg
  go_enter Tryz.func116, Tryz.ntmps116
  go_wp2_with fail
  refine (thread (HRP.out _) (w.heap.size + 1) (w.alloc BufBox) (Below.refl _ _) (by simp)).mono ?_
  rintro e w1 ⟨⟨a1, c1, rfl, ho1⟩, hB1, -, -, -, hz1⟩
  have p2 : w1.cell? ⟨w.heap.size, 0, none⟩ = some (.slice none 0 0) := (hB1.cell (p := ⟨w.heap.size, 0, none⟩) (Nat.lt_succ_self _)).trans (by simp)
  have pf2 : w1.frozen? ⟨w.heap.size, 0, none⟩ = false := (hB1.frozen (p := ⟨w.heap.size, 0, none⟩) (Nat.lt_succ_self _)).trans (by simp)
  have HB2 := Lib.hid ((Below.alloc (Below.refl _ w) (Nat.le_refl _) BufBox).trans (hB1.mono (Nat.le_succ _)))
  clear ho1 hB1 HRP
  go_wp2_with fail
  refine bodyPost_ret (v := .tuple #[.agg #[.slice none 0 0], .int .i64 4]) (by simp [results, Tryz.results116, go_sem, p2]) rfl ⟨?_, ?_⟩
  ·rw [HP.out]
   exact BfRes.none _ _ _ _ rfl
  ·exact (HB2.out).setCell (p := ⟨w.heap.size, 0, none⟩) (Nat.le_refl _) _
open Go.RowKit
theorem find1E (u : Ent) (k : List UInt8) (w : World) :
  Calls Tryz.prog 119 #[.agg #[.string (S u.key), .string (S u.val)], .string (S k)] w fun e w' => e = .returned (.int .i64 (cmpZ u.key k)) ∧ Below w.heap.size w w' := by
 go_enter Tryz.func119, Tryz.ntmps119
 go_wp2_with (go_at_call 120; refine (compare_any _ _ _).mono ?_; rintro e w' ⟨rfl, rfl⟩)
 go_ret
 exact ⟨rfl, by go_grown⟩
theorem searchE (ao : Option Addr) (c : Nat) (l : List Ent) (k : List UInt8) (w : World) (hs : SlAt Ent.cells 2 w ao l) (hl : l.length ≤ 1000000) (hr : Rising Ent.key l) :
  Calls Tryz.prog 118 #[.slice ao l.length c, .string (S k), .func (.func 119) #[] #[]] w fun e w' => e = .returned (.tuple #[.int .i64 (below Ent.key l k : Nat), .bool (hasKey Ent.key l k)]) ∧ Below w.heap.size w w' := by
 have hbl := below_le (key := Ent.key) l k
 go_enter Tryz.func118, Tryz.ntmps118
 go_wp2_with fail
 go_loopw [9, 10] (fun i j wr => ∃ a b : Nat, i = .int .i64 a ∧ j = .int .i64 b ∧ a ≤ below Ent.key l k ∧ below Ent.key l k ≤ b ∧ b ≤ l.length ∧ Below w.heap.size w wr) (fun i j _ => (intOf j).toNat - (intOf i).toNat)
 case atStart => exact ⟨0, l.length, rfl, rfl, Nat.zero_le _, hbl, Nat.le_refl _, Below.refl _ _⟩
 case round =>
  obtain ⟨a, b, rfl, rfl, ha, hb, hbn, hB⟩ := hrel
  have hB0 := hB.size
  by_cases hab : a < b
  ·have hab' : (a : Int) < (b : Int) := by omega
   have hh : (a + b) / 2 < l.length := by omega
   obtain ⟨bk, off, rfl, hbk, hcs⟩ := (hs.kept hB (Nat.le_refl _)).at (by omega)
   obtain ⟨c0, c1⟩ := entCells hcs ((a + b) / 2) hh
   have hR := hr.below k ((a + b) / 2) hh
   clear hcs
   generalize l[(a + b) / 2] = u at *
   have hi0 : (0 : Int) ≤ ((a : Int) + (b : Int)) / 2 := by omega
   have hi1 : ((a : Int) + (b : Int)) / 2 < (l.length : Int) := by omega
   cases hq : bl u.key k with
   | true =>
    have hz := cmpZ_lt hq
    have hlt : (a + b) / 2 < below Ent.key l k := hR.1 hq
    clear hR hq
    go_wp2_with (go_at_call 119; refine (thread (find1E u k _) w.heap.size w (by go_grown) (by go_grown)).mono ?_; rw [hz]; rintro e w1 ⟨rfl, hB1, -, -, hs1, hz1⟩)
    go_roundw
    case rel => exact ⟨(a + b) / 2 + 1, b, by go_num, rfl, by omega, hb, hbn, hB1⟩
    case measure => simp [intOf]; omega
   | false =>
    have hz := cmpZ_ge hq
    have hge : below Ent.key l k ≤ (a + b) / 2 := by
     have := mt hR.2 (by rw [hq]; simp)
     omega
    clear hR hq
    have hzz : ∃ z, Hid (cmpZ u.key k = z) ∧ ¬ z < 0 := ⟨_, Lib.hid rfl, by omega⟩
    obtain ⟨z, hzz, hz0⟩ := hzz
    clear hz
    go_wp2_with (go_at_call 119; refine (thread (find1E u k _) w.heap.size w (by go_grown) (by go_grown)).mono ?_; rw [hzz.out]; rintro e w1 ⟨rfl, hB1, -, -, hs1, hz1⟩)
    go_roundw
    case rel => exact ⟨a, (a + b) / 2, rfl, by go_num, ha, hge, by omega, hB1⟩
    case measure => simp [intOf]; omega
  ·have hab' : ¬ (a : Int) < (b : Int) := by omega
   obtain rfl : a = below Ent.key l k := by omega
   have hf := hr.found k
   by_cases hin : below Ent.key l k < l.length
   ·obtain ⟨bk, off, rfl, hbk, hcs⟩ := (hs.kept hB (Nat.le_refl _)).at (by omega)
    obtain ⟨c0, c1⟩ := entCells hcs _ hin
    clear hcs hr hs
    have hin' : ((below Ent.key l k : Nat) : Int) < (l.length : Int) := by omega
    have hin0 : (0 : Int) ≤ ((below Ent.key l k : Nat) : Int) := by omega
    generalize hu : l[below Ent.key l k] = u at *
    by_cases he : u.key = k
    ·have hk : Hid (hasKey Ent.key l k = true) := Lib.hid (hf.2 ⟨hin, by rw [hu]; exact he⟩)
     have hz := cmpZ_zero.2 he
     clear hf hu he
     generalize hidx : below Ent.key l k = i at *
     have hidx' := Lib.hid hidx
     clear hidx
     go_wp2_with (go_at_call 119; refine (thread (find1E u k _) w.heap.size w (by go_grown) (by go_grown)).mono ?_; rw [hz]; rintro e w1 ⟨rfl, hB1, -, -, hs1, hz1⟩)
     go_ret2
     exact ⟨ret_val (by rw [hidx'.out, hk.out]; rfl), hB1⟩
    ·have hk : Hid (hasKey Ent.key l k = false) := Lib.hid (by
      rw [← Bool.not_eq_true, hf]
      rintro ⟨h1, h2⟩
      exact he (by rw [← hu]; exact h2))
     have hz : (cmpZ u.key k == 0) = false := by rw [beq_eq_false_iff_ne]; exact mt cmpZ_zero.1 he
     clear hf hu he
     generalize hidx : below Ent.key l k = i at *
     have hidx' := Lib.hid hidx
     clear hidx
     go_wp2_with (go_at_call 119; refine (thread (find1E u k _) w.heap.size w (by go_grown) (by go_grown)).mono ?_; rintro e w1 ⟨rfl, hB1, -, -, hs1, hz1⟩)
     go_ret2
     exact ⟨ret_val (by rw [hidx'.out, hk.out]; rfl), hB1⟩
   ·have hk : Hid (hasKey Ent.key l k = false) := Lib.hid (by
     rw [← Bool.not_eq_true, hf]
     rintro ⟨h1, h2⟩
     exact hin h1)
    have hin' : ¬ ((below Ent.key l k : Nat) : Int) < (l.length : Int) := by omega
    clear hf hr hs
    generalize hidx : below Ent.key l k = i at *
    have hidx' := Lib.hid hidx
    clear hidx
    go_wp2_with fail
    go_ret2
    exact ⟨ret_val (by rw [hidx'.out, hk.out]; rfl), hB⟩
open Go.RowKit
theorem infoE : (Tryz.prog.info? 73).map (fun i => (i.zero, i.size, i.bytes)) = some (some (.agg #[.string ByteArray.empty, .string ByteArray.empty]), 2, 32) := by kernel_rfl
def cellsE (l : List Ent) : List Value := l.flatMap Ent.cells
theorem cellsE_len : ∀ l : List Ent, (cellsE l).length = l.length * 2
 | [] => rfl
 | u :: l => by
  have := cellsE_len l
  simp only [cellsE, List.flatMap_cons, List.length_append, List.length_cons] at *
  rw [this]
  simp [Ent.cells]; omega
theorem cellsE_append (a b : List Ent) : cellsE (a ++ b) = cellsE a ++ cellsE b := by simp [cellsE]
theorem cellsE_one (u : Ent) : cellsE [u] = Ent.cells u := by simp [cellsE]
theorem cellsE_oneCell (l : List Ent) : ∀ v ∈ cellsE l, v.oneCell' = true := by
 intro v hv
 simp only [cellsE, List.mem_flatMap] at hv
 obtain ⟨u, -, hv⟩ := hv
 simp only [Ent.cells, List.mem_cons, List.not_mem_nil, or_false] at hv
 rcases hv with rfl | rfl <;> rfl
theorem cellsE_get : ∀ (l : List Ent) (i : Nat) (hi : i < l.length) (j : Nat) (x : Value), (Ent.cells l[i])[j]? = some x → (cellsE l)[i * 2 + j]? = some x
 | [], i, hi, _, _, _ => by simp at hi
 | u :: l, 0, _, j, x, hx => by
  have hj : j < (Ent.cells u).length := (List.getElem?_eq_some_iff.1 hx).1
  simp only [cellsE, List.flatMap_cons, Nat.zero_mul, Nat.zero_add]
  rw [List.getElem?_append_left hj]; exact hx
 | u :: l, i + 1, hi, j, x, hx => by
  have := cellsE_get l i (by simpa using hi) j x (by simpa using hx)
  have hu : (Ent.cells u).length = 2 := rfl
  simp only [cellsE, List.flatMap_cons] at *
  rw [List.getElem?_append_right (by rw [hu]; omega), hu, show (i + 1) * 2 + j - 2 = i * 2 + j by omega]
  exact this
theorem cellsE_take (l : List Ent) (n : Nat) : (cellsE l).take (n * 2) = cellsE (l.take n) := by
 by_cases h : n ≤ l.length
 ·conv => lhs; rw [← List.take_append_drop n l, cellsE_append]
  rw [List.take_append_of_le_length (by rw [cellsE_len, List.length_take]; omega), List.take_of_length_le (by rw [cellsE_len, List.length_take]; omega)]
 ·rw [List.take_of_length_le (by rw [cellsE_len]; omega), List.take_of_length_le (by omega)]
theorem cellsE_drop (l : List Ent) (n : Nat) : (cellsE l).drop (n * 2) = cellsE (l.drop n) := by
 by_cases h : n ≤ l.length
 ·conv => lhs; rw [← List.take_append_drop n l, cellsE_append]
  rw [List.drop_append, List.drop_of_length_le (by rw [cellsE_len, List.length_take]; omega), cellsE_len, List.length_take]
  simp [Nat.min_eq_left h]
 ·rw [List.drop_of_length_le (by rw [cellsE_len]; omega), List.drop_of_length_le (by omega)]; rfl
structure SlE (w : World) (v : Value) (l : List Ent) : Prop where
 form : ∃ ao c, v = .slice ao l.length c ∧ SlAt Ent.cells 2 w ao l ∧ l.length ≤ c ∧ (c : Int) ≤ 9223372036854775807 ∧ (ao = none → c = 0)
theorem SlE.nil (w : World) : SlE w (.slice none 0 0) [] := ⟨none, 0, rfl, Or.inl rfl, Nat.le_refl _, by omega, fun _ => rfl⟩
theorem SlE.kept {w w' : World} {v : Value} {l : List Ent} {B : Nat} (h : SlE w v l) (hb : Below B w w') (hB : w.heap.size ≤ B) : SlE w' v l := by
 obtain ⟨ao, c, rfl, h1, h2⟩ := h
 exact ⟨ao, c, rfl, h1.kept hb hB, h2⟩
theorem SlAt.cellsE {w : World} {b off : Nat} {l : List Ent} (h : ∀ (i : Nat) (hi : i < l.length) (j : Nat) (x : Value), (Ent.cells l[i])[j]? = some x → w.cell? ⟨b, off + i * 2 + j, none⟩ = some x) :
  ∀ j x, (cellsE l)[j]? = some x → w.cell? ⟨b, off + j, none⟩ = some x := by
 intro j x hx
 have hj := (List.getElem?_eq_some_iff.1 hx).1
 rw [cellsE_len] at hj
 have hi : j / 2 < l.length := by omega
 have hr : j % 2 < (Ent.cells l[j / 2]).length := Nat.mod_lt _ (by decide)
 have e := cellsE_get l (j / 2) hi (j % 2) _ (List.getElem?_eq_getElem hr)
 rw [show j / 2 * 2 + j % 2 = j by omega] at e
 rw [hx] at e
 have := h (j / 2) hi (j % 2) x (by rw [List.getElem?_eq_getElem hr, ← e])
 rw [show off + j / 2 * 2 + j % 2 = off + j by omega] at this
 exact this
theorem SlE.of_own {w : World} {B n : Nat} {v : Value} {l : List Ent} (h : w.ownsRow B 73 2 v n (cellsE l)) : l.length = n ∧ SlE w v l := by
 have hn : l.length = n := by have := h.1; rw [cellsE_len] at this; omega
 refine ⟨hn, ?_⟩
 subst hn
 rcases ownsRow_open h with ⟨rfl, h0, -⟩ | ⟨g, cap, cur, rfl, -, hr, h3, h4, h5, h6⟩
 ·obtain rfl := List.eq_nil_of_length_eq_zero h0
  exact SlE.nil w
 ·refine ⟨_, cap, rfl, Or.inr ⟨g, 0, rfl, hr.lt, fun i hi j x hx => ?_⟩, h3, by unfold maxLen at h4; omega, fun e => by simp at e⟩
  have hj : j < 2 := (List.getElem?_eq_some_iff.1 hx).1
  have e := cellsE_get l i hi j x hx
  rw [hr.cell, Nat.zero_add, ← e, ← h6, List.getElem?_take, if_pos (by omega)]
theorem cloneE (v : Value) (l : List Ent) (w : World) (h : SlE w v l) (hl : l.length ≤ 1000000) :
  Calls Tryz.prog 127 #[v] w fun e w' => (∃ v', e = .returned v' ∧ w'.ownsRow w.heap.size 73 2 v' l.length (cellsE l)) ∧ Below w.heap.size w w' := by
 obtain ⟨ao, c, rfl, hs, hc1, hc2, hn⟩ := h
 have hnil := fun (w : World) a n c n' c' => Lib.run_eql_slice_nil (P := Tryz.prog) w 43 73 a n c n' c' Tryz.underlying43
 obtain ⟨i0, hi, hz0, hz1, hz2⟩ := info_parts infoE
 cases ao with
 | none =>
  obtain rfl := hn rfl
  obtain rfl : l = [] := List.eq_nil_of_length_eq_zero (by omega)
  go_enter Tryz.func127, Tryz.ntmps127
  go_wp2_with fail
  go_ret
  exact ⟨⟨_, rfl, World.ownsRow_nil _ _ _ _⟩, Below.refl _ _⟩
 | some a =>
  have hown := World.ownsRow_made (e := 73) (size := 2) (base := w.heap.size) w #[] 0 (Nat.le_refl _) (by unfold maxLen; omega) rfl
  have hnews : ∀ j u, (cellsE l)[j]? = some u → (w.alloc (.cells #[] 73)).cell? (a.add j) = some u := by
   intro j u hu
   have hj := (List.getElem?_eq_some_iff.1 hu).1
   rw [cellsE_len] at hj
   obtain ⟨b, off, e, hb, hc⟩ := hs.at (by omega)
   obtain rfl : a = ⟨b, off, none⟩ := by simpa using e
   rw [show (⟨b, off, none⟩ : Addr).add j = ⟨b, off + j, none⟩ by simp [Addr.add]]
   exact cell_past _ (SlAt.cellsE hc j u hu)
  have hcl := cellsE_len l
  clear hs
  go_enter Tryz.func127, Tryz.ntmps127
  go_wp2_with (at_builtin; refine wpList_append_own_at _ rfl _ _ 43 rfl w.heap.size 73 i0 (.agg #[.string ByteArray.empty, .string ByteArray.empty]) 2 32 Tryz.underlying43 hi hz0 hz1 hz2 rfl (by decide) _ 0 [] rfl hown a l.length c (cellsE l) rfl hcl hnews (cellsE_oneCell l) (by unfold maxLen; omega) (by omega) (by simp) ?_; intro v' w1 hown' hgrow hnil' hat)
  go_ret
  rw [Nat.zero_add, List.nil_append] at hown'
  exact ⟨⟨_, rfl, hown'⟩, below_grown_new hgrow fun k e => Nat.le_of_eq (Option.some.inj e)⟩
open Go.RowKit
structure BoxE (w : World) (v : Value) (l : List Ent) : Prop where
 form : ∃ s, v = .agg #[s] ∧ SlE w s l
theorem BoxE.kept {w w' : World} {v : Value} {l : List Ent} {B : Nat} (h : BoxE w v l) (hb : Below B w w') (hB : w.heap.size ≤ B) : BoxE w' v l := by
 obtain ⟨s, rfl, hs⟩ := h
 exact ⟨s, rfl, hs.kept hb hB⟩
theorem BoxE.of_own {w : World} {B n : Nat} {v : Value} {l : List Ent} (h : w.ownsRow B 73 2 v n (cellsE l)) : BoxE w (.agg #[v]) l := ⟨v, rfl, (SlE.of_own h).2⟩
theorem listE (v : Value) (l : List Ent) (w : World) (h : BoxE w v l) (hl : l.length ≤ 1000000) :
  Calls Tryz.prog 92 #[v] w fun e w' => (∃ v', e = .returned v' ∧ w'.ownsRow w.heap.size 73 2 v' l.length (cellsE l)) ∧ Below w.heap.size w w' := by
 obtain ⟨s, rfl, h2⟩ := h
 have hcl := fun w => cloneE s l w
 obtain ⟨ao, c, rfl, hs, hc1, hc2, hn⟩ := h2
 have hS : SlE w (.slice ao l.length c) l := ⟨ao, c, rfl, hs, hc1, hc2, hn⟩
 have H := Lib.hid hcl
 have HS := Lib.hid hS
 clear hcl hS hn
 go_enter Tryz.func92, Tryz.ntmps92
 go_wp2_with (go_at_call 127; refine (thread (H.out _ (HS.out.kept (by go_grown) (Nat.le_refl _)) hl) w.heap.size w (by go_grown) (by go_grown)).mono ?_; rintro e w1 ⟨⟨v', rfl, hown⟩, hB, -, -, hs1, hz1⟩)
 go_ret
 exact ⟨⟨_, rfl, own_base hown (by simp)⟩, hB⟩
theorem findE (v : Value) (l : List Ent) (k : List UInt8) (w : World) (h : BoxE w v l) (hl : l.length ≤ 1000000) (hr : Rising Ent.key l) :
  Calls Tryz.prog 88 #[v, .string (S k)] w fun e w' => e = .returned (.tuple #[.int .i64 (below Ent.key l k : Nat), .bool (hasKey Ent.key l k)]) ∧ Below w.heap.size w w' := by
 obtain ⟨s, rfl, ao, c, rfl, hs, hc1, hc2, hn⟩ := h
 go_enter Tryz.func88, Tryz.ntmps88
 go_wp2_with (go_at_call 118; refine (thread (searchE ao c l k _ (hs.kept (by go_grown) (Nat.le_refl _)) hl hr) w.heap.size w (by go_grown) (by go_grown)).mono ?_; rintro e w1 ⟨rfl, hB, -, -, hs1, hz1⟩)
 go_ret2
 exact ⟨rfl, hB⟩
open Go.RowKit
theorem sizeE : (Tryz.prog.info? 73).map (·.size) = some 2 := by kernel_rfl
def insE (l : List Ent) (i : Nat) (x : Ent) : List Ent := l.take i ++ x :: l.drop i
theorem insEndE (B : Nat) (v : Value) (l : List Ent) (x : Ent) (vb : Nat) (w : World) (hown : w.ownsRow B 73 2 v l.length (cellsE l)) (hB : B ≤ w.heap.size) (hl : l.length ≤ 1000000)
  (hx : RowIs w 73 vb (Ent.cells x)) :
  Calls Tryz.prog 128 #[v, .int .i64 l.length, .slice (some ⟨vb, 0, none⟩) 1 1] w fun e w' => (∃ v', e = .returned v' ∧ w'.ownsRow B 73 2 v' (l.length + 1) (cellsE (l ++ [x])) ∧ w.grownBy w' v.ownBlock ∧ (v'.ownBlock = v.ownBlock ∨ v'.ownBlock = some w.heap.size)) := by
 obtain ⟨i0, hi, hz0, hz1, hz2⟩ := info_parts infoE
 obtain ⟨ao, c, rfl, hlc⟩ : ∃ ao c, v = .slice ao l.length c ∧ l.length ≤ c := by
  rcases ownsRow_open hown with ⟨rfl, h0, -⟩ | ⟨g, cap, cur, rfl, -, -, h3, -⟩
  ·exact ⟨none, 0, by rw [h0], by omega⟩
  ·exact ⟨_, _, rfl, h3⟩
 obtain ⟨X, hX⟩ : ∃ X, ∀ w, (Instr.slice 43 (.slice ao l.length c) (some (.int .i64 (l.length : Int))) none none).run Tryz.prog w = .ok X w :=
  ⟨_, fun w => by rw [run_slice_l w 43 ao l.length c (by exact Tryz.underlying43) .i64 l.length (by omega) (by omega)]; rfl⟩
 have hl0 : ((1 : Int) == 0) = false := rfl
 go_enter Tryz.func128, Tryz.ntmps128
 go_wp2_with (at_builtin; refine wpList_append_own_at _ rfl _ _ 43 rfl B 73 i0 (.agg #[.string ByteArray.empty, .string ByteArray.empty]) 2 32 Tryz.underlying43 hi hz0 hz1 hz2 rfl (by decide) _ l.length _ rfl hown ⟨vb, 0, none⟩ 1 1 (Ent.cells x) rfl rfl (hx.cells 0 _ fun j v hv => by rw [Nat.zero_add]; exact hv) (by rw [← cellsE_one]; exact cellsE_oneCell _) (by unfold maxLen; omega) (by omega) hB ?_; intro v' w1 hown' hgrow hnil' hat)
 go_ret
 exact ⟨_, rfl, by rw [cellsE_append, cellsE_one]; exact hown', hgrow, hat⟩
theorem insRowE {cur zs : List Value} {i G k : Nat} (h : i * k ≤ cur.length) (hz : zs.length = (G - i) * k) (hi : i ≤ G) : (cur.take (i * k) ++ zs).length = G * k := by
 rw [List.length_append, List.length_take, hz, Nat.sub_mul]
 have := Nat.mul_le_mul_right k hi
 omega
theorem insGrowE (B g cap : Nat) (cur : List Value) (l : List Ent) (i : Nat) (x : Ent) (vb : Nat) (w : World) (hrow : RowIs w 73 g cur) (hcur : cur = cellsE l) (hil : i < l.length) (hcl : cap = l.length) (hB : B ≤ w.heap.size) (hl : l.length ≤ 1000000)
  (hx : RowIs w 73 vb (Ent.cells x)) :
  Calls Tryz.prog 128 #[.slice (some ⟨g, 0, none⟩) l.length cap, .int .i64 i, .slice (some ⟨vb, 0, none⟩) 1 1] w fun e w' => (∃ v', e = .returned v' ∧ w'.ownsRow B 73 2 v' (l.length + 1) (cellsE (insE l i x)) ∧ w.grownBy w' none ∧ v'.ownBlock = some w.heap.size) := by
 obtain ⟨i0, hi, hz0, hz1, hz2⟩ := info_parts infoE
 have hcurl : cur.length = l.length * 2 := by rw [hcur, cellsE_len]
 have hg := hrow.lt
 have hv := hx.lt
 have hne : ((i : Int) == (l.length : Int)) = false := by rw [beq_eq_false_iff_ne]; omega
 have hi1 : (i : Int) < (l.length : Int) := by omega
 have hi0 : (0 : Int) ≤ (i : Int) := by omega
 have hci : ¬ cap = i := by omega
 have hc1 : (cap : Int) < (l.length : Int) + 1 := by omega
 have hc2 : (l.length : Int) ≤ (cap : Int) := by omega
 have hk : (l.length : Int) + 1 - (i : Int) = ((l.length + 1 - i : Nat) : Int) := by omega
 have hkk := Lib.hid hk
 have hxl : (Ent.cells x).length = 2 := rfl
 have hcur' := Lib.hid hcur
 have hcl' := Lib.hid hcl
 clear hk hcur hcl
 go_enter Tryz.func128, Tryz.ntmps128
 go_wp2_with (first | (at_builtin; refine wpList_append_zeros _ rfl _ _ 43 3 rfl 73 i0 (.agg #[.string ByteArray.empty, .string ByteArray.empty]) 2 32 Tryz.underlying43 Tryz.underlying3 hi hz0 hz1 hz2 rfl (by decide) (by decide) g i cap cur hrow rfl (l.length + 1 - i) (by rw [← hkk.out]; rfl) (by omega) (by omega) (by rw [hcl'.out]; omega) (l.length + 1) (by omega) (by omega) ?_; intro w1 G zs hr1 hzs hG hGm hg1; have tokG : True := trivial; unfold maxLen at hGm; have hGi : ¬ G = i := (by omega); have hGi1 : ¬ G = i + 1 := (by omega); have hx1 := hx.kept hg1 (by simp); have hrow1 := hrow.kept hg1 (by simp); have hzl := Lib.hid hzs; clear hzs; have hrl' := Lib.hid (insRowE (cur := cur) (k := 2) (by rw [hcurl]; exact Nat.mul_le_mul_right _ (Nat.le_of_lt hil)) hzl.out (by omega))) | (with_reducible show wpList _ _ _ (Oper.mk (some 45) _ _ _ _ _ :: _) _ _; go_must (refine wpList_copyK _ rfl (.tmp 43) (.tmp 44) 43 43 rfl 73 2 Tryz.underlying43 sizeE w.heap.size (i * 2) (l.length + 1 - i) (G - i) ⟨vb, 0, none⟩ 1 1 rfl rfl _ (Ent.cells x) 1 hr1 (by simp only [Nat.min_def]; split <;> omega) rfl (hx1.cells 0 _ fun j v hv => by rw [Nat.zero_add]; exact hv) ?hfit (by rw [← cellsE_one]; exact cellsE_oneCell _) ?_; (case hfit => (rw [hrl'.out, hxl]; omega)); intro w2 hr2 hg2; have hrow2 := hrow1.kept hg2 (by simp; omega))))
 have hol := Lib.hid ((over_len (cur := cur.take (i * 2) ++ zs) (cs := Ent.cells x) (o := i * 2) (by rw [hrl'.out, hxl]; omega)).trans hrl'.out)
 have hw1 : IntKind.i64.wrap ((i : Int) + 1) = (i : Int) + 1 := IntWalk.i64_in _ (by omega)
 have hb1 : (0 : Int) ≤ (i : Int) + 1 := by omega
 have hin : i ≤ l.length := by omega
 have hb3 : (i : Int) ≤ (l.length : Int) := by omega
 have htn : ((i : Int) + 1).toNat = i + 1 := by omega
 have hdl : (cur.drop (i * 2)).length = (l.length - i) * 2 := by rw [List.length_drop, hcurl, Nat.sub_mul]
 have hdl' := Lib.hid hdl
 clear hdl hzl hrl'
 go_region_law (refine step_copyK rfl _ _ 43 43 rfl 73 2 Tryz.underlying43 sizeE w.heap.size ((i + 1) * 2) (l.length + 1 - (i + 1)) (G - (i + 1)) ⟨g, i * 2, none⟩ (l.length - i) (cap - i) (by simp [Act.eval, Act.put]) (by simp [Act.eval, Act.put]) _ (cur.drop (i * 2)) (l.length - i) hr2.drew (by simp only [Nat.min_def]; split <;> omega) hdl'.out (hrow2.drew.cells _ _ fun j v hv => by rwa [List.getElem?_drop] at hv) ?hfit2 (by rw [hcur'.out]; exact fun v hv => cellsE_oneCell _ v (List.mem_of_mem_drop hv)) ?_; (case hfit2 => (rw [hdl'.out, hol.out]; omega)); intro w3 hr3 hg3)
 go_wp2_with fail
 go_ret
 have hfit3 : (i + 1) * 2 + (cur.drop (i * 2)).length ≤ (over (cur.take (i * 2) ++ zs) (i * 2) (Ent.cells x)).length := by rw [hdl'.out, hol.out]; omega
 refine ⟨_, rfl, ownsRow_shut hB hr3 hG (by unfold maxLen; omega) ((over_len hfit3).trans hol.out) ?_, grown_new (grown_drew (grown_new hg1 hg2 (Nat.le_refl _))) hg3 (Nat.le_refl _), rfl⟩
 rw [over_two (cur.take (i * 2)) zs (Ent.cells x) (cur.drop (i * 2)) (i * 2) ((i + 1) * 2) (by rw [List.length_take, hcurl]; omega) (by rw [hxl]; omega) ((l.length + 1) * 2) (by rw [hdl'.out]; omega)]
 rw [hcur'.out, cellsE_take, cellsE_drop, insE, cellsE_append, ← List.singleton_append, cellsE_append, cellsE_one]
theorem insShiftE (B g cap : Nat) (cur : List Value) (l : List Ent) (i : Nat) (x : Ent) (vb : Nat) (w : World) (hrow : RowIs w 73 g cur) (hcur : cur.take (l.length * 2) = cellsE l) (hcurl : cur.length = cap * 2) (hil : i < l.length) (hcl : l.length + 1 ≤ cap) (hcm : cap ≤ 9223372036854775807) (hB : B ≤ g) (hl : l.length ≤ 1000000)
  (hx : RowIs w 73 vb (Ent.cells x)) (hvg : vb ≠ g) :
  Calls Tryz.prog 128 #[.slice (some ⟨g, 0, none⟩) l.length cap, .int .i64 i, .slice (some ⟨vb, 0, none⟩) 1 1] w fun e w' => (∃ v', e = .returned v' ∧ w'.ownsRow B 73 2 v' (l.length + 1) (cellsE (insE l i x)) ∧ w.grownBy w' (some g) ∧ v'.ownBlock = some g) := by
 have hg := hrow.lt
 have hv := hx.lt
 have hne : ((i : Int) == (l.length : Int)) = false := by rw [beq_eq_false_iff_ne]; omega
 have hi1 : (i : Int) < (l.length : Int) := by omega
 have hi0 : (0 : Int) ≤ (i : Int) := by omega
 have hci : ¬ cap = i := by omega
 have hci1 : ¬ cap = i + 1 := by omega
 have hc1 : ¬ (cap : Int) < (l.length : Int) + 1 := by omega
 have hc2 : (l.length : Int) + 1 ≤ (cap : Int) := by omega
 have hov : ∀ lb cb, (callFunc 160 #[.slice (some ⟨vb, 0, none⟩) 1 1, .slice (some ⟨g, (i + 1) * 2, none⟩) lb cb]).run Tryz.prog w = .ok (.value (.bool false)) w := fun lb cb => by
  rw [run_callFunc_extern Tryz.func160 (by kernel_rfl) (by kernel_rfl) (by kernel_rfl) (e := Extern.SlicesOverlaps.overlaps #[43, 43] #[4]) (by kernel_rfl),
   Lib.run_overlaps_apart w 43 4 73 Tryz.underlying43 2 Tryz.sizeOf73 ⟨vb, 0, none⟩ ⟨g, (i + 1) * 2, none⟩ 1 1 lb cb hvg 73 73 _ _ hx.shape hrow.shape (by omega) (hx.frozen 0) (hx.frozen _)]
  rfl
 have hxl : (Ent.cells x).length = 2 := rfl
 have hw1 : IntKind.i64.wrap ((i : Int) + 1) = (i : Int) + 1 := IntWalk.i64_in _ (by omega)
 have hb1 : (0 : Int) ≤ (i : Int) + 1 := by omega
 have hin : i ≤ l.length := by omega
 have hb3 : (i : Int) ≤ (l.length : Int) := by omega
 have hb4 : (i : Int) ≤ (l.length : Int) + 1 := by omega
 have htn : ((i : Int) + 1).toNat = i + 1 := by omega
 obtain ⟨R, hcurE⟩ : ∃ R, cur = cellsE (l.take i) ++ (cellsE (l.drop i) ++ R) := ⟨cur.drop (l.length * 2), by
  rw [← List.append_assoc, ← cellsE_append, List.take_append_drop, ← hcur, List.take_append_drop]⟩
 have hPl : (cellsE (l.take i)).length = i * 2 := by rw [cellsE_len, List.length_take]; omega
 have hQl : (cellsE (l.drop i)).length = (l.length - i) * 2 := by rw [cellsE_len, List.length_drop]
 have hRl : R.length = (cap - l.length) * 2 := by rw [hcurE, List.length_append, List.length_append, hPl, hQl] at hcurl; omega
 have hQ1 := cellsE_oneCell (l.drop i)
 have hins : cellsE (insE l i x) = cellsE (l.take i) ++ (Ent.cells x ++ cellsE (l.drop i)) := by
  rw [insE, cellsE_append, ← List.singleton_append, cellsE_append, cellsE_one]
 have hins' := Lib.hid hins
 have hcurl' := Lib.hid hcurl
 clear hcur hins hcurl
 generalize cellsE (l.take i) = C at *
 generalize cellsE (l.drop i) = D at *
 have hCl := Lib.hid hPl
 have hDl := Lib.hid hQl
 have hRl' := Lib.hid hRl
 have hcurE' := Lib.hid hcurE
 clear hPl hQl hRl hcurE
 go_enter Tryz.func128, Tryz.ntmps128
 go_wp2_with (simp only [hov])
 go_region_law (refine step_copyK rfl _ _ 43 43 rfl 73 2 Tryz.underlying43 sizeE g ((i + 1) * 2) (l.length + 1 - (i + 1)) (cap - (i + 1)) ⟨g, i * 2, none⟩ (l.length + 1 - i) (cap - i) (by simp [Act.eval, Act.put]) (by simp [Act.eval, Act.put]) _ D (l.length - i) hrow.drew (by simp only [Nat.min_def]; split <;> omega) hDl.out (hrow.drew.cells _ _ fun j v hv => by rw [hcurE'.out, ← hCl.out, List.getElem?_append_right (by omega), Nat.add_sub_cancel_left, List.getElem?_append_left (List.getElem?_eq_some_iff.1 hv).1]; exact hv) (by rw [hDl.out, hcurl'.out]; omega) hQ1 ?_; intro w3 hr3 hg3)
 have hx3 := hx.drew.kept hg3 (by simpa using hvg)
 have hol := Lib.hid ((over_len (cur := cur) (cs := D) (o := (i + 1) * 2) (by rw [hDl.out, hcurl'.out]; omega)).trans hcurl'.out)
 go_wp2_with (with_reducible show wpList _ _ _ (Oper.mk (some 82) _ _ _ _ _ :: _) _ _; refine wpList_copyK _ rfl (.tmp 80) (.tmp 81) 43 43 rfl 73 2 Tryz.underlying43 sizeE g (i * 2) (l.length + 1 - i) (cap - i) ⟨vb, 0, none⟩ 1 1 rfl rfl _ (Ent.cells x) 1 hr3 (by simp only [Nat.min_def]; split <;> omega) rfl (hx3.cells 0 _ fun j v hv => by rw [Nat.zero_add]; exact hv) ?hfit (by rw [← cellsE_one]; exact cellsE_oneCell _) ?_; (case hfit => (rw [hol.out, hxl]; omega)); intro w4 hr4 hg4)
 go_ret
 refine ⟨_, rfl, ownsRow_shut hB hr4 hcl (by unfold maxLen; omega) ((over_len (by rw [hol.out, hxl]; omega)).trans hol.out) ?_, grown_trans' (grown_undrew hg3) hg4, rfl⟩
 rw [hcurE'.out, hins'.out]
 exact over_gap C D R (Ent.cells x) (i * 2) ((i + 1) * 2) hCl.out (by rw [hxl]; omega) ((l.length + 1) * 2) (by rw [hDl.out]; omega) (by rw [hxl, hRl'.out]; omega)
theorem insertE (B : Nat) (v : Value) (l : List Ent) (i : Nat) (x : Ent) (vb : Nat) (w : World) (hown : w.ownsRow B 73 2 v l.length (cellsE l)) (hB : B ≤ w.heap.size) (hi : i ≤ l.length) (hl : l.length ≤ 1000000)
  (hx : RowIs w 73 vb (Ent.cells x)) (hvb : v.ownBlock ≠ some vb) :
  Calls Tryz.prog 128 #[v, .int .i64 i, .slice (some ⟨vb, 0, none⟩) 1 1] w fun e w' => (∃ v', e = .returned v' ∧ w'.ownsRow B 73 2 v' (l.length + 1) (cellsE (insE l i x)) ∧ w.grownBy w' v.ownBlock ∧ (v'.ownBlock = v.ownBlock ∨ v'.ownBlock = some w.heap.size)) := by
 by_cases he : i = l.length
 ·subst he
  have := insEndE B v l x vb w hown hB hl hx
  rw [insE, List.take_length, List.drop_length]
  exact this
 ·rcases ownsRow_open hown with ⟨rfl, h0, -⟩ | ⟨g, cap, cur, rfl, hBg, hr, hn, hm, hc, ht⟩
  ·omega
  ·have hvg : vb ≠ g := fun e => hvb (by simp [Value.ownBlock, e])
   by_cases hroom : l.length + 1 ≤ cap
   ·refine (insShiftE B g cap cur l i x vb w hr ht hc (by omega) hroom (by unfold maxLen at hm; omega) hBg hl hx hvg).mono ?_
    rintro e w' ⟨v', h1, h2, h3, h4⟩
    exact ⟨v', h1, h2, h3, Or.inl h4⟩
   ·have hcl : cap = l.length := by omega
    subst hcl
    refine (insGrowE B g l.length cur l i x vb w hr (by rw [← ht, List.take_of_length_le (by omega)]) (by omega) rfl hB hl hx).mono ?_
    rintro e w' ⟨v', h1, h2, h3, h4⟩
    exact ⟨v', h1, h2, ⟨h3.os, h3.tape, h3.output, h3.size, fun k hk _ => h3.block k hk (by simp)⟩, Or.inr h4⟩
open Go.RowKit
section
variable {P : Program} (w : World)
theorem run_appendK (t ty E : TypeId) (i : TypeInfo) (k g n cap : Nat) (a : Addr) (m c : Nat) (cur : List Value) (news : List Value) (ht : P.underlying t = some (.slice E)) (hi : P.info? E = some i) (hk : i.size = k)
  (hrow : RowIs w E g cur) (hl : news.length = m * k) (hsrc : ∀ j v, news[j]? = some v → w.cell? (a.add j) = some v) (hroom : n + m ≤ cap) (hfit : n * k + news.length ≤ cur.length) (h1 : ∀ v ∈ news, v.oneCell' = true) :
  (Builtin.append_ #[t, t] ty #[.slice (some ⟨g, 0, none⟩) n cap, .slice (some a) m c]).run P w = .ok (.slice (some ⟨g, 0, none⟩) (n + m) cap) (w.setRow g (over cur (n * k) news).toArray) := by
 subst hk
 have hst := run_storeCells_at P g (n * i.size) E news 0 cur.toArray w hrow (by simpa using hfit) h1
 have hf := run_firstCells_some (P := P) w i.size m a m c news hl hsrc
 simp only [Nat.add_zero] at hst
 simp [Builtin.append_, run_underlying ht, sizeOf, typeInfo, hi, Builtin.lenOf, hroom, hf, Addr.add_lit, hst, over]
theorem run_clearK (t ty E : TypeId) (z : Value) (k g o n c : Nat) (cur : List Value) (ht : P.underlying t = some (.slice E)) (hz : ∀ w, (zeroValue E).run P w = .ok z w) (hk : z.cells.size = k) (h1 : ∀ v ∈ z.cells.toList, v.oneCell' = true)
  (hrow : RowIs w E g cur) (hn : 0 < n) (hfit : o + n * k ≤ cur.length) :
  ∃ zs : List Value, zs.length = n * k ∧ (Builtin.clear_ #[t] ty #[.slice (some ⟨g, o, none⟩) n c]).run P w = .ok (.tuple #[]) (w.setRow g (over cur o zs).toArray) := by
 have hlen : (Builtin.zeroCells z.cells n).toList.length = n * k := by rw [Array.length_toList, zeroCells_len, hk]
 have hone : ∀ v ∈ (Builtin.zeroCells z.cells n).toList, v.oneCell' = true := by
  intro v hv
  have hm := Array.mem_toList_iff.1 hv
  unfold Builtin.zeroCells at hm
  obtain ⟨j, hj, rfl⟩ := Array.mem_map.1 hm
  have hpos : 0 < z.cells.size := by
   rcases Nat.eq_zero_or_pos z.cells.size with h0 | h0
   ·rw [h0, Nat.mul_zero] at hj; simp at hj
   ·exact h0
  rw [getElem!_pos z.cells _ (Nat.mod_lt _ hpos)]
  exact h1 _ (Array.mem_toList_iff.2 (Array.getElem_mem _))
 have hst := run_storeCells_at P g o E (Builtin.zeroCells z.cells n).toList 0 cur.toArray w hrow (by rw [hlen]; simpa using hfit) hone
 obtain ⟨m, rfl⟩ : ∃ m, n = m + 1 := ⟨n - 1, by omega⟩
 refine ⟨_, hlen, ?_⟩
 simp only [Nat.add_zero] at hst
 simp [Builtin.clear_, run_underlying ht, hz, hst, over]
end
theorem step_appendK {P : Program} {ops : Array Oper} {o : Oper} {a : Act} {w : World} {K : Act → World → Prop} {Q : Exit → Act → World → Prop} {E0 : Prop}
  (hgd : o.guard = none) (d s : Operand) (t : TypeId) (ho : o.op = Op.call { callee := Callee.builtin Builtin.append, args := #[d, s], argTypes := #[t, t] }) (E : TypeId) (i : TypeInfo) (k : Nat) (ht : P.underlying t = some (.slice E)) (hi : P.info? E = some i) (hk : i.size = k)
  (g n cap : Nat) (ad : Addr) (m c : Nat) (hd : a.eval d = .slice (some ⟨g, 0, none⟩) n cap) (hsr : a.eval s = .slice (some ad) m c) (cur news : List Value)
  (hrow : RowIs w E g cur) (hl : news.length = m * k) (hsrc : ∀ j v, news[j]? = some v → w.cell? (ad.add j) = some v) (hroom : n + m ≤ cap) (hfit : n * k + news.length ≤ cur.length) (h1 : ∀ v ∈ news, v.oneCell' = true)
  (h : ∀ w', RowIs w' E g (over cur (n * k) news) → w.grownBy w' (some g) → K (a.put o.dst (.slice (some ⟨g, 0, none⟩) (n + m) cap)) w') :
  if Region.wanted o (yielded ops a.tmps) = true then Oper.wp P o a w K Q else E0 := by
 have hr := run_appendK (P := P) w t o.type E i k g n cap ad m c cur news ht hi hk hrow hl hsrc hroom hfit h1
 have hw : Region.wanted o (yielded ops a.tmps) = true := by simp [Region.wanted, hgd]
 rw [if_pos hw]
 unfold Oper.wp
 simp [execOp, ho, resolve, invoke, builtin, hd, hsr, hr, Result.andThen]
 exact h _ (hrow.set _) (grown_setRow _ _ _)
theorem wpList_clearK {P : Program} (w : World) {ops : Array Oper} {rest : List Oper} {o : Oper} {a : Act} {Q : Exit → Act → World → Prop} (hgd : o.guard = none) (s : Operand) (t : TypeId)
  (ho : o.op = .call { callee := .builtin .clear, args := #[s], argTypes := #[t] }) (E : TypeId) (z : Value) (k g off n c : Nat) (cur : List Value) (ht : P.underlying t = some (.slice E)) (hz : ∀ w, (zeroValue E).run P w = .ok z w) (hk : z.cells.size = k) (h1 : ∀ v ∈ z.cells.toList, v.oneCell' = true)
  (hs : a.eval s = .slice (some ⟨g, off, none⟩) n c) (hrow : RowIs w E g cur) (hn : 0 < n) (hfit : off + n * k ≤ cur.length)
  (h : ∀ w' zs, zs.length = n * k → RowIs w' E g (over cur off zs) → w.grownBy w' (some g) → wpList P ops Q rest (a.put o.dst (.tuple #[])) w') : wpList P ops Q (o :: rest) a w := by
 obtain ⟨zs, hl, hr⟩ := run_clearK (P := P) w t o.type E z k g off n c cur ht hz hk h1 hrow hn hfit
 refine wpList_plain hgd fun K hK => ?_
 unfold Oper.wp
 simp only [execOp, ho, resolve, invoke, builtin, Sem.run_bind, Sem.run_pure, Result.andThen_ok, List.map_toArray, List.map_cons, List.map_nil, hs, hr]
 exact hK _ _ (h _ zs hl (hrow.set _) (grown_setRow _ _ _))
def delE (l : List Ent) (i : Nat) : List Ent := l.take i ++ l.drop (i + 1)
theorem zeroE (w : World) : (zeroValue 73).run Tryz.prog w = .ok (.agg #[.string ByteArray.empty, .string ByteArray.empty]) w := by kernel_rfl
theorem over_down (P X Q R zs : List Value) (o : Nat) (ho : P.length = o) (n : Nat) (hn : o + Q.length = n) (_hz : zs.length = X.length) : (over (over (P ++ (X ++ (Q ++ R))) o Q) n zs).take n = P ++ Q := by
 have e1 : over (P ++ (X ++ (Q ++ R))) o Q = P ++ (Q ++ (X ++ (Q ++ R)).drop Q.length) := over_behind P _ Q o ho
 rw [e1, ← List.append_assoc, over_behind (P ++ Q) _ zs n (by simp; omega), List.take_append_of_le_length (by simp; omega), List.take_of_length_le (by simp; omega)]
theorem delRowE (B g cap : Nat) (cur : List Value) (l : List Ent) (i : Nat) (w : World) (hrow : RowIs w 73 g cur) (hcur : cur.take (l.length * 2) = cellsE l) (hcurl : cur.length = cap * 2) (hil : i < l.length) (hcl : l.length ≤ cap) (hcm : cap ≤ 9223372036854775807) (hB : B ≤ g) (hl : l.length ≤ 1000000) :
  Calls Tryz.prog 129 #[.slice (some ⟨g, 0, none⟩) l.length cap, .int .i64 i, .int .i64 ((i : Int) + 1)] w fun e w' => (∃ c', e = .returned (.slice (some ⟨g, 0, none⟩) (l.length - 1) c') ∧ w'.ownsRow B 73 2 (.slice (some ⟨g, 0, none⟩) (l.length - 1) c') (l.length - 1) (cellsE (delE l i))) ∧ w.grownBy w' (some g) := by
 obtain ⟨i0, hi, hz0, hz1, hz2⟩ := info_parts infoE
 have hg := hrow.lt
 have hne : ((i : Int) == (i : Int) + 1) = false := by rw [beq_eq_false_iff_ne]; omega
 have hi1 : (i : Int) < (l.length : Int) := by omega
 have hi0 : (0 : Int) ≤ (i : Int) := by omega
 have hi2 : (0 : Int) ≤ (i : Int) + 1 := by omega
 have hi3 : (i : Int) ≤ (i : Int) + 1 := by omega
 have hi4 : (i : Int) + 1 ≤ (l.length : Int) := by omega
 have hi5 : (i : Int) ≤ (l.length : Int) := by omega
 have hi6 : (l.length : Int) ≤ (cap : Int) := by omega
 have hi7 : (i : Int) ≤ (cap : Int) := by omega
 have hci : ¬ cap = i := by omega
 have htn : ((i : Int) + 1).toNat = i + 1 := by omega
 obtain ⟨R, hcurE⟩ : ∃ R, cur = cellsE (l.take i) ++ (cellsE [l[i]] ++ (cellsE (l.drop (i + 1)) ++ R)) := ⟨cur.drop (l.length * 2), by
  rw [← List.append_assoc, ← List.append_assoc, ← cellsE_append, ← cellsE_append, List.append_assoc, List.singleton_append, List.getElem_cons_drop, List.take_append_drop, ← hcur, List.take_append_drop]⟩
 have hPl : (cellsE (l.take i)).length = i * 2 := by rw [cellsE_len, List.length_take]; omega
 have hQl : (cellsE (l.drop (i + 1))).length = (l.length - (i + 1)) * 2 := by rw [cellsE_len, List.length_drop]
 have hXl : (cellsE [l[i]]).length = 2 := by rw [cellsE_len]; rfl
 have hQ1 := cellsE_oneCell (l.drop (i + 1))
 have hdel : cellsE (delE l i) = cellsE (l.take i) ++ cellsE (l.drop (i + 1)) := by rw [delE, cellsE_append]
 have hdel' := Lib.hid hdel
 have hcurl' := Lib.hid hcurl
 clear hcur hdel hcurl
 generalize cellsE (l.take i) = C at *
 generalize cellsE (l.drop (i + 1)) = D at *
 generalize cellsE [l[i]] = X at *
 have hCl := Lib.hid hPl
 have hDl := Lib.hid hQl
 have hXl' := Lib.hid hXl
 have hcurE' := Lib.hid hcurE
 clear hPl hQl hXl hcurE
 go_enter Tryz.func129, Tryz.ntmps129
 go_wp2_with fail
 have hR := Lib.hid (over_down C X D R)
 by_cases hce : cap = i + 1
 ·have hn1 : l.length = i + 1 := by omega
  have hD0 : D = [] := List.eq_nil_of_length_eq_zero (by rw [hDl.out]; omega)
  go_region_law (refine step_appendK rfl (.tmp 22) (.tmp 25) 43 rfl 73 i0 2 Tryz.underlying43 hi hz1 g i (i + 1) ⟨g, 0, none⟩ 0 0 (by simp [Act.eval, Act.put]) (by simp [Act.eval, Act.put]) cur [] hrow.drew rfl (fun j v hv => by simp at hv) (by omega) (by rw [hcurl'.out]; simp; omega) (by simp) ?_; intro w3 hr3 hg3)
  go_wp2_with (with_reducible show wpList _ _ _ (Oper.mk none _ _ _ _ _ :: _) _ _; refine wpList_clearK _ rfl (.tmp 31) 43 rfl 73 _ 2 g (i * 2) 1 1 _ Tryz.underlying43 zeroE rfl (by decide) ?hs hr3 (by omega) ?hfit ?_; (case hs => simp [Act.eval]); (case hfit => (rw [over_len (by rw [hcurl'.out]; simp; omega), hcurl'.out]; omega)); intro w4 zs hzl hr4 hg4)
  rw [hcurE'.out, hD0, List.nil_append] at hr4
  go_ret
  rw [show l.length - 1 = i by omega]
  refine ⟨⟨_, rfl, ?_⟩, grown_trans' (grown_undrew hg3) hg4⟩
  have hC := over_down C X [] R zs (i * 2) hCl.out (i * 2) rfl (by rw [hzl, hXl'.out])
  rw [List.nil_append] at hC
  have hl2 : (C ++ (X ++ R)).length = (i + 1) * 2 := by rw [← hce, ← hcurl'.out, hcurE'.out, hD0, List.nil_append]
  have h1 := (over_len (cur := C ++ (X ++ R)) (cs := []) (o := i * 2) (by rw [hl2]; simp; omega)).trans hl2
  have h2 := (over_len (cs := zs) (o := i * 2) (by rw [h1, hzl]; omega)).trans h1
  exact ownsRow_shut hB hr4 (by omega) (by unfold maxLen; omega) h2 (by rw [hC, hdel'.out, hD0, List.append_nil])
 ·go_region_law (refine step_appendK rfl (.tmp 22) (.tmp 25) 43 rfl 73 i0 2 Tryz.underlying43 hi hz1 g i cap ⟨g, (i + 1) * 2, none⟩ (l.length - (i + 1)) (cap - (i + 1)) (by simp [Act.eval, Act.put]) (by simp [Act.eval, Act.put]) cur D hrow.drew hDl.out (hrow.drew.cells _ _ fun j v hv => by rw [hcurE'.out, ← List.append_assoc, List.getElem?_append_right (by rw [List.length_append, hCl.out, hXl'.out]; omega), List.length_append, hCl.out, hXl'.out, show (i + 1) * 2 + j - (i * 2 + 2) = j by omega, List.getElem?_append_left (List.getElem?_eq_some_iff.1 hv).1]; exact hv) (by omega) (by rw [hDl.out, hcurl'.out]; omega) hQ1 ?_; intro w3 hr3 hg3)
  go_wp2_with (with_reducible show wpList _ _ _ (Oper.mk none _ _ _ _ _ :: _) _ _; refine wpList_clearK _ rfl (.tmp 31) 43 rfl 73 _ 2 g ((i + (l.length - (i + 1))) * 2) (l.length - (i + (l.length - (i + 1)))) (cap - (i + (l.length - (i + 1)))) _ Tryz.underlying43 zeroE rfl (by decide) ?hs hr3 (by omega) ?hfit ?_; (case hs => simp [Act.eval]); (case hfit => (rw [over_len (by rw [hDl.out, hcurl'.out]; omega), hcurl'.out]; omega)); intro w4 zs hzl hr4 hg4)
  have hli : i + (l.length - (i + 1)) = l.length - 1 := by omega
  rw [hli] at hr4 hzl
  rw [hcurE'.out] at hr4
  go_ret
  rw [hli]
  refine ⟨⟨_, rfl, ?_⟩, grown_trans' (grown_undrew hg3) hg4⟩
  have hC := over_down C X D R zs (i * 2) hCl.out ((l.length - 1) * 2) (by rw [hDl.out]; omega) (by rw [hzl, hXl'.out]; omega)
  have hl2 : (C ++ (X ++ (D ++ R))).length = cap * 2 := by rw [← hcurl'.out, hcurE'.out]
  have h1 := (over_len (cs := D) (o := i * 2) (by rw [hl2, hDl.out]; omega)).trans hl2
  have h2 := (over_len (cs := zs) (o := (l.length - 1) * 2) (by rw [h1, hzl]; omega)).trans h1
  exact ownsRow_shut hB hr4 (by omega) (by unfold maxLen; omega) h2 (by rw [hC, hdel'.out])
theorem deleteE (B : Nat) (v : Value) (l : List Ent) (i : Nat) (w : World) (hown : w.ownsRow B 73 2 v l.length (cellsE l)) (hi : i < l.length) (hl : l.length ≤ 1000000) :
  Calls Tryz.prog 129 #[v, .int .i64 i, .int .i64 ((i : Int) + 1)] w fun e w' => (∃ v', e = .returned v' ∧ w'.ownsRow B 73 2 v' (delE l i).length (cellsE (delE l i)) ∧ v'.ownBlock = v.ownBlock) ∧ w.grownBy w' v.ownBlock := by
 rcases ownsRow_open hown with ⟨rfl, h0, -⟩ | ⟨g, cap, cur, rfl, hBg, hr, hn, hm, hc, ht⟩
 ·omega
 ·refine (delRowE B g cap cur l i w hr ht hc hi hn (by unfold maxLen at hm; omega) hBg hl).mono ?_
  rintro e w' ⟨⟨c', h1, h2⟩, h3⟩
  have hd : (delE l i).length = l.length - 1 := by simp [delE]; omega
  rw [hd]
  exact ⟨⟨_, h1, h2, rfl⟩, h3⟩
open Go.RowKit
def oldE (l : List Ent) (k : List UInt8) : List UInt8 := ((l[below Ent.key l k]?).map Ent.val).getD []
def newE (l : List Ent) (u : Upd) : List UInt8 × Bool := if hasKey Ent.key l u.key then onL (oldE l u.key) true u else onL [] false u
def onE (l : List Ent) (u : Upd) : List Ent :=
 if u.check ≠ 0 then l
 else if (newE l u).2 then (if hasKey Ent.key l u.key then l.set (below Ent.key l u.key) ⟨u.key, (newE l u).1⟩ else insE l (below Ent.key l u.key) ⟨u.key, (newE l u).1⟩)
 else if hasKey Ent.key l u.key then delE l (below Ent.key l u.key) else l
structure LeafAt (B p : Nat) (l : List Ent) (w : World) : Prop where
 own : ∃ a c, w.cell? ⟨p, 0, none⟩ = some (.slice a l.length c) ∧ w.ownsRow B 73 2 (.slice a l.length c) l.length (cellsE l) ∧ (Value.slice a l.length c).ownBlock ≠ some p
 free : w.frozen? ⟨p, 0, none⟩ = false
 lt : p < w.heap.size
 base : B ≤ p
theorem LeafAt.on {B p : Nat} {l : List Ent} {w w' : World} (h : LeafAt B p l w) (hb : Below w.heap.size w w') : LeafAt B p l w' := by
 obtain ⟨⟨a, c, h1, h2, h3⟩, h4, h5, h6⟩ := h
 exact ⟨⟨a, c, kept_cell hb h1, own_below h2 hb, h3⟩, ((bcell hb).2 p 0 h5).trans h4, Nat.lt_of_lt_of_le h5 hb.size, h6⟩
theorem cellsE_set : ∀ (l : List Ent) (i : Nat) (y : List UInt8) (hi : i < l.length), (cellsE l).set (i * 2 + 1) (.string (S y)) = cellsE (l.set i ⟨l[i].key, y⟩)
 | [], i, _, h => by simp at h
 | u :: l, 0, y, _ => by simp [cellsE, Ent.cells]
 | u :: l, i + 1, y, h => by
  have ih := cellsE_set l i y (by simpa using h)
  have e : ∀ (y : Ent) (m : List Ent), cellsE (y :: m) = .string (S y.key) :: .string (S y.val) :: cellsE m := fun y m => by simp [cellsE, Ent.cells]
  rw [List.getElem_cons_succ, List.set_cons_succ, e, e, ← ih, show (i + 1) * 2 + 1 = i * 2 + 1 + 1 + 1 by omega]
  simp only [List.set_cons_succ]
structure OnAt (B p q : Nat) (a : Option Addr) (c : Nat) (l : List Ent) (kd : Nat) (key val : List UInt8) (dl : Nat) (w0 w : World) : Prop where
 cell : w.cell? ⟨p, 0, none⟩ = some (.slice a l.length c)
 own : w.ownsRow B 73 2 (.slice a l.length c) l.length (cellsE l)
 free : w.frozen? ⟨p, 0, none⟩ = false
 q0 : w.cell? ⟨q, 0, none⟩ = some (.int .u8 kd)
 q1 : w.cell? ⟨q, 1, none⟩ = some (.string (S key))
 q2 : w.cell? ⟨q, 2, none⟩ = some (.string (S val))
 q3 : w.cell? ⟨q, 3, none⟩ = some (.int .u64 dl)
 lt : p < w.heap.size
 low : Below B w0 w
 base : B ≤ w0.heap.size
theorem OnAt.on {B p q : Nat} {a : Option Addr} {c : Nat} {l : List Ent} {kd : Nat} {key val : List UInt8} {dl : Nat} {w0 w w' : World} (h : OnAt B p q a c l kd key val dl w0 w) (hb : Below w.heap.size w w') : OnAt B p q a c l kd key val dl w0 w' :=
 ⟨kept_cell hb h.cell, own_below h.own hb, ((bcell hb).2 p 0 h.lt).trans h.free, kept_cell hb h.q0, kept_cell hb h.q1, kept_cell hb h.q2, kept_cell hb h.q3, Nat.lt_of_lt_of_le h.lt hb.size, h.low.trans (hb.mono (Nat.le_trans h.base h.low.size)), h.base⟩
theorem OnAt.drew {B p q : Nat} {a : Option Addr} {c : Nat} {l : List Ent} {kd : Nat} {key val : List UInt8} {dl : Nat} {w0 w : World} (h : OnAt B p q a c l kd key val dl w0 w) : OnAt B p q a c l kd key val dl w0 w.drew := h.on (below_drew' (Below.refl _ _))
theorem OnAt.start {B p : Nat} {a : Option Addr} {c : Nat} {l : List Ent} {kd : Nat} {key val : List UInt8} {dl : Nat} {w : World} (t : TypeId) (h1 : w.cell? ⟨p, 0, none⟩ = some (.slice a l.length c)) (h2 : w.ownsRow B 73 2 (.slice a l.length c) l.length (cellsE l)) (h3 : w.frozen? ⟨p, 0, none⟩ = false) (h4 : p < w.heap.size) (h5 : B ≤ p) :
  OnAt B p w.heap.size a c l kd key val dl w (w.alloc (.cells #[.int .u8 kd, .string (S key), .string (S val), .int .u64 dl] t)) := by
 have hb : Below w.heap.size w (w.alloc (.cells #[.int .u8 kd, .string (S key), .string (S val), .int .u64 dl] t)) := by go_grown
 exact ⟨kept_cell hb h1, own_below h2 hb, ((bcell hb).2 p 0 h4).trans h3, by simp, by simp, by simp, by simp, Nat.lt_of_lt_of_le h4 hb.size, hb.mono (by omega), by omega⟩
theorem on_refused (p : Nat) (kd : Nat) (key val : List UInt8) (dl : Nat) (w : World) (hk : kd < 256) (hd : dl < 18446744073709551616) (hc : (Upd.mk kd key val dl).check ≠ 0) :
  Calls Tryz.prog 93 #[.pointer (some ⟨p, 0, none⟩), .agg #[.int .u8 kd, .string (S key), .string (S val), .int .u64 dl]] w fun e w' => e = .returned (.tuple #[]) ∧ Below w.heap.size w w' := by
 have hchk := fun w => chk kd key val dl hk hd w
 have hc0 : (((Upd.mk kd key val dl).check : Nat) : Int) ≠ 0 := by omega
 generalize (Upd.mk kd key val dl).check = cc at *
 go_enter Tryz.func93, Tryz.ntmps93
 go_wp2_with fail
 refine (thread (hchk _) w.heap.size w (by go_grown) (by go_grown)).mono ?_
 rintro e w1 ⟨rfl, hB1, -, -, -, -⟩
 go_wp2_with fail
 exact bodyPost_ret (v := .tuple #[]) (by simp [results, Tryz.results93, go_sem]) rfl ⟨rfl, hB1⟩
theorem LeafAt.put {B p n : Nat} {l : List Ent} {w : World} {x : Value} {a : Option Addr} {c : Nat} (hn : l.length = n) (z1 : w.cell? ⟨p, 0, none⟩ = some x) (z2 : w.frozen? ⟨p, 0, none⟩ = false) (hown : w.ownsRow B 73 2 (.slice a n c) n (cellsE l)) (hne : (Value.slice a n c).ownBlock ≠ some p) (hlt : p < w.heap.size) (hB : B ≤ p) :
  LeafAt B p l (w.setCell ⟨p, 0, none⟩ (.slice a n c)) := by
 subst hn
 exact ⟨⟨a, c, World.cell?_setCell_same _ _ _ z1, ownsRow_setCell_other (a := ⟨p, 0, none⟩) hown hne _, hne⟩, by rw [World.frozen?_setCell]; exact z2, by rw [World.size_setCell]; exact hlt, hB⟩
theorem insE_len (l : List Ent) (i : Nat) (x : Ent) (h : i ≤ l.length) : (insE l i x).length = l.length + 1 := by simp [insE]; omega
theorem delE_len (l : List Ent) (i : Nat) (h : i < l.length) : (delE l i).length = l.length - 1 := by simp [delE]; omega
theorem on_nothing (B p : Nat) (l : List Ent) (kd : Nat) (key val : List UInt8) (dl : Nat) (w : World) (h : LeafAt B p l w) (hl : l.length ≤ 100000) (hr : Rising Ent.key l) (hk : kd < 256) (hd : dl < 18446744073709551616) (hc : (Upd.mk kd key val dl).check = 0) (i : Nat) (hi : below Ent.key l key = i) (hh : hasKey Ent.key l key = false) (y : List UInt8) (hy : onL [] false ⟨kd, key, val, dl⟩ = (y, false)) :
  Calls Tryz.prog 93 #[.pointer (some ⟨p, 0, none⟩), .agg #[.int .u8 kd, .string (S key), .string (S val), .int .u64 dl]] w fun e w' => e = .returned (.tuple #[]) ∧ LeafAt B p l w' ∧ Below B w w' := by
 have hchk := fun w => chk kd key val dl hk hd w
 rw [hc] at hchk
 have hfind := fun v w hv => findE v l key w hv (by omega) hr
 rw [hh, hi] at hfind
 have hon := fun w => on_any [] false kd key val dl (by simp) hk hd w
 simp only [onV, hy] at hon
 obtain ⟨⟨a, c, h1, h2, hne⟩, h3, h4, h5⟩ := h
 have HO := Lib.hid (OnAt.start (kd := kd) (key := key) (val := val) (dl := dl) 39 h1 h2 h3 h4 h5)
 have HF := Lib.hid hfind
 have HN := Lib.hid hon
 clear hfind hon hy hc h1 h2 h3 hr hi hh hk hd
 go_enter Tryz.func93, Tryz.ntmps93
 go_wp2_with fail
 refine (hchk _).mono ?_
 rintro e w1 ⟨rfl, hB1⟩
 have HO1 := Lib.hid (HO.out.on hB1)
 clear HO hchk hB1
 obtain ⟨c1, o1, f1, q0, q1, q2, q3, lt1, low1, -⟩ := HO1.out
 go_wp2_with fail
 go_region_held3 (fun w' => w'.cell? ⟨p, 0, none⟩ = some (.slice a l.length c) ∧ w'.cell? ⟨w.heap.size, 1, none⟩ = some (.string (S key)) ∧ OnAt B p w.heap.size a c l kd key val dl w w')
  (first | assumption | exact ⟨c1, q1, HO1.out.drew⟩ | exact ⟨HO2.out.cell, HO2.out.q1, HO2.out⟩)
  ((go_at_call 88; go_must (obtain ⟨x0, x1, x2⟩ := ‹_ ∧ _ ∧ OnAt _ _ _ _ _ _ _ _ _ _ _ _›; refine (HF.out _ _ ⟨_, rfl, (SlE.of_own x2.own).2⟩).mono ?_; rintro e w2 ⟨rfl, hB2⟩; have HO2 := Lib.hid (x2.on hB2))))
 clear c1 o1 f1 q0 q1 q2 q3 lt1 low1 HO1 HF
 obtain ⟨c2, o2, f2, q0, q1, q2, q3, lt2, low2, -⟩ := HO2.out
 go_wp2_with fail
 refine (HN.out _).mono ?_
 rintro e w3 ⟨rfl, hB3⟩
 have HO3 := Lib.hid (HO2.out.on hB3)
 have hB3' := hB3
 clear c2 o2 f2 q0 q1 q2 q3 lt2 low2 HO2 hB3 HN
 obtain ⟨c3, o3, f3, q0, q1, q2, q3, lt3, low3, base3⟩ := HO3.out
 go_wp2_with fail
 exact bodyPost_end (v := .tuple #[]) (by simp [results, Tryz.results93, go_sem]) rfl ⟨rfl, ⟨⟨a, c, c3, o3, hne⟩, f3, lt3, h5⟩, low3⟩
theorem on_new (B p : Nat) (l : List Ent) (kd : Nat) (key val : List UInt8) (dl : Nat) (w : World) (h : LeafAt B p l w) (hl : l.length ≤ 100000) (hr : Rising Ent.key l) (hk : kd < 256) (hd : dl < 18446744073709551616) (hc : (Upd.mk kd key val dl).check = 0) (i : Nat) (hi : below Ent.key l key = i) (hh : hasKey Ent.key l key = false) (hil : i ≤ l.length) (y : List UInt8) (hy : onL [] false ⟨kd, key, val, dl⟩ = (y, true)) :
  Calls Tryz.prog 93 #[.pointer (some ⟨p, 0, none⟩), .agg #[.int .u8 kd, .string (S key), .string (S val), .int .u64 dl]] w fun e w' => e = .returned (.tuple #[]) ∧ LeafAt B p (insE l i ⟨key, y⟩) w' ∧ Below B w w' := by
 have hchk := fun w => chk kd key val dl hk hd w
 rw [hc] at hchk
 have hfind := fun v w hv => findE v l key w hv (by omega) hr
 rw [hh, hi] at hfind
 have hon := fun w => on_any [] false kd key val dl (by simp) hk hd w
 simp only [onV, hy] at hon
 obtain ⟨⟨a, c, h1, h2, hne⟩, h3, h4, h5⟩ := h
 have HO := Lib.hid (OnAt.start (kd := kd) (key := key) (val := val) (dl := dl) 39 h1 h2 h3 h4 h5)
 have HF := Lib.hid hfind
 have HN := Lib.hid hon
 clear hfind hon hy hc h1 h2 h3 hr hi hh hk hd
 go_enter Tryz.func93, Tryz.ntmps93
 go_wp2_with fail
 refine (hchk _).mono ?_
 rintro e w1 ⟨rfl, hB1⟩
 have HO1 := Lib.hid (HO.out.on hB1)
 clear HO hchk hB1
 obtain ⟨c1, o1, f1, q0, q1, q2, q3, lt1, low1, -⟩ := HO1.out
 go_wp2_with fail
 go_region_held3 (fun w' => w'.cell? ⟨p, 0, none⟩ = some (.slice a l.length c) ∧ w'.cell? ⟨w.heap.size, 1, none⟩ = some (.string (S key)) ∧ OnAt B p w.heap.size a c l kd key val dl w w')
  (first | assumption | exact ⟨c1, q1, HO1.out.drew⟩ | exact ⟨HO2.out.cell, HO2.out.q1, HO2.out⟩)
  ((go_at_call 88; go_must (obtain ⟨x0, x1, x2⟩ := ‹_ ∧ _ ∧ OnAt _ _ _ _ _ _ _ _ _ _ _ _›; refine (HF.out _ _ ⟨_, rfl, (SlE.of_own x2.own).2⟩).mono ?_; rintro e w2 ⟨rfl, hB2⟩; have HO2 := Lib.hid (x2.on hB2))))
 clear c1 o1 f1 q0 q1 q2 q3 lt1 low1 HO1 HF
 obtain ⟨c2, o2, f2, q0, q1, q2, q3, lt2, low2, -⟩ := HO2.out
 go_wp2_with fail
 refine (HN.out _).mono ?_
 rintro e w3 ⟨rfl, hB3⟩
 have HO3 := Lib.hid (HO2.out.on hB3)
 have hB3' := hB3
 clear c2 o2 f2 q0 q1 q2 q3 lt2 low2 HO2 hB3 HN
 obtain ⟨c3, o3, f3, q0, q1, q2, q3, lt3, low3, base3⟩ := HO3.out
 have hI := Lib.hid (insertE B (.slice a l.length c) l i ⟨key, y⟩ w3.heap.size (w3.drew.alloc (.cells #[.string (S key), .string (S y)] 73)) (o3.drew.alloc _) (by simp; have := low3.size; omega) hil (by omega) (RowIs.new w3.drew 73 (Ent.cells ⟨key, y⟩)) (fun e => by have := (o3.lt _ e).2; omega))
 have hlow := Lib.hid ((below_drew' low3).alloc (Nat.le_trans base3 low3.size) (.cells #[.string (S key), .string (S y)] 73))
 have hob := fun k (e : (Value.slice a l.length c).ownBlock = some k) => (o3.lt k e).1
 have hbz := Nat.le_trans base3 low3.size
 clear o3
 go_wp2_with fail
 go_region_law (first | (go_simp; go_at_call 128; refine (hI.out).mono ?_; rintro e w5 ⟨v3, rfl, hown3, hg3, hat3⟩; have z1 := hg3.cell (cell_past _ (cell_drew c3)) (by simpa using fun e => hne e.symm); have z2 : w5.frozen? ⟨p, 0, none⟩ = false := (World.frozen?_of_block (hg3.block p (by simp; omega) (fun e => hne e.symm))).trans (by rw [World.frozen?_alloc_old _ _ _ (by show p ≠ _; simp; omega)]; exact frozen_drew f3); obtain ⟨a3, c3', e3⟩ := own_form hown3; subst e3))
 all_goals (
  go_wp2_with fail
  refine bodyPost_end (v := .tuple #[]) (by simp [results, Tryz.results93, go_sem]) rfl ⟨rfl, LeafAt.put (insE_len l i _ hil) z1 z2 hown3 ?_ (Nat.lt_of_lt_of_le lt3 (Nat.le_trans (by simp) hg3.size)) h5, (below_grown hlow.out hg3 hob (by simp; omega)).setCell (p := ⟨p, 0, none⟩) h5 _⟩
  rcases hat3 with hat | hat
  ·rw [hat]; exact hne
  ·rw [hat]; intro e; simp at e; omega)
theorem on_set (B p : Nat) (l : List Ent) (kd : Nat) (key val : List UInt8) (dl : Nat) (w : World) (h : LeafAt B p l w) (hl : l.length ≤ 100000) (hr : Rising Ent.key l) (hk : kd < 256) (hd : dl < 18446744073709551616) (hc : (Upd.mk kd key val dl).check = 0) (i : Nat) (hi : below Ent.key l key = i) (hh : hasKey Ent.key l key = true) (hil : i < l.length) (hky : l[i].key = key) (old : List UInt8) (ho : l[i].val = old) (hvl : old.length ≤ 1000000) (y : List UInt8) (hy : onL old true ⟨kd, key, val, dl⟩ = (y, true)) :
  Calls Tryz.prog 93 #[.pointer (some ⟨p, 0, none⟩), .agg #[.int .u8 kd, .string (S key), .string (S val), .int .u64 dl]] w fun e w' => e = .returned (.tuple #[]) ∧ LeafAt B p (l.set i ⟨key, y⟩) w' ∧ Below B w w' := by
 have hchk := fun w => chk kd key val dl hk hd w
 rw [hc] at hchk
 have hfind := fun v w hv => findE v l key w hv (by omega) hr
 rw [hh, hi] at hfind
 have hon := fun w => on_any old true kd key val dl hvl hk hd w
 simp only [onV, hy] at hon
 obtain ⟨⟨a, c, h1, h2, hne⟩, h3, h4, h5⟩ := h
 have HO := Lib.hid (OnAt.start (kd := kd) (key := key) (val := val) (dl := dl) 39 h1 h2 h3 h4 h5)
 have HF := Lib.hid hfind
 have HN := Lib.hid hon
 clear hfind hon hy hc h1 h2 h3 hr hi hh hk hd
 go_enter Tryz.func93, Tryz.ntmps93
 go_wp2_with fail
 refine (hchk _).mono ?_
 rintro e w1 ⟨rfl, hB1⟩
 have HO1 := Lib.hid (HO.out.on hB1)
 clear HO hchk hB1
 obtain ⟨c1, o1, f1, q0, q1, q2, q3, lt1, low1, -⟩ := HO1.out
 go_wp2_with fail
 go_region_held3 (fun w' => w'.cell? ⟨p, 0, none⟩ = some (.slice a l.length c) ∧ w'.cell? ⟨w.heap.size, 1, none⟩ = some (.string (S key)) ∧ OnAt B p w.heap.size a c l kd key val dl w w')
  (first | assumption | exact ⟨c1, q1, HO1.out.drew⟩ | exact ⟨HO2.out.cell, HO2.out.q1, HO2.out⟩)
  ((go_at_call 88; go_must (obtain ⟨x0, x1, x2⟩ := ‹_ ∧ _ ∧ OnAt _ _ _ _ _ _ _ _ _ _ _ _›; refine (HF.out _ _ ⟨_, rfl, (SlE.of_own x2.own).2⟩).mono ?_; rintro e w2 ⟨rfl, hB2⟩; have HO2 := Lib.hid (x2.on hB2))))
 clear c1 o1 f1 q0 q1 q2 q3 lt1 low1 HO1 HF
 obtain ⟨c2, o2, f2, q0, q1, q2, q3, lt2, low2, -⟩ := HO2.out
 obtain ⟨g, rfl, hgB, hgl, hrow⟩ := own_at o2 (by omega)
 have t1 := hrow (i * 2 + 1) (.string (S l[i].val)) (cellsE_get l i hil 1 _ rfl)
 rw [ho] at t1
 have hi0 : (0 : Int) ≤ (i : Int) := by omega
 have hi1 : (i : Int) < (l.length : Int) := by omega
 clear hrow
 go_wp2_with fail
 refine (HN.out _).mono ?_
 rintro e w3 ⟨rfl, hB3⟩
 have HO3 := Lib.hid (HO2.out.on hB3)
 have hB3' := hB3
 clear c2 o2 f2 q0 q1 q2 q3 lt2 low2 HO2 hB3 HN
 obtain ⟨c3, o3, f3, q0, q1, q2, q3, lt3, low3, base3⟩ := HO3.out
 have hgp : p ≠ g := fun e => hne (by rw [e]; rfl)
 have u1 := (cell_below (w := w2) (w' := w3) (B := w2.heap.size) hB3' hgl _).trans t1
 have uf := o3.frozenAt
 have hset := (o3.stored (i * 2 + 1) (.string (S y))).1
 rw [cellsE_set l i y hil, hky] at hset
 go_wp2_with fail
 exact bodyPost_end (v := .tuple #[]) (by simp [results, Tryz.results93, go_sem]) rfl ⟨rfl, ⟨⟨some ⟨g, 0, none⟩, c, by rw [List.length_set]; exact far_block hgp c3, by rw [List.length_set]; exact hset, by rw [List.length_set]; exact hne⟩, by rw [World.frozen?_setCell]; exact f3, by rw [World.size_setCell]; exact lt3, h5⟩, low3.setCell (p := ⟨g, i * 2 + 1, none⟩) hgB _⟩
theorem on_del (B p : Nat) (l : List Ent) (kd : Nat) (key val : List UInt8) (dl : Nat) (w : World) (h : LeafAt B p l w) (hl : l.length ≤ 100000) (hr : Rising Ent.key l) (hk : kd < 256) (hd : dl < 18446744073709551616) (hc : (Upd.mk kd key val dl).check = 0) (i : Nat) (hi : below Ent.key l key = i) (hh : hasKey Ent.key l key = true) (hil : i < l.length) (_hky : l[i].key = key) (old : List UInt8) (ho : l[i].val = old) (hvl : old.length ≤ 1000000) (y : List UInt8) (hy : onL old true ⟨kd, key, val, dl⟩ = (y, false)) :
  Calls Tryz.prog 93 #[.pointer (some ⟨p, 0, none⟩), .agg #[.int .u8 kd, .string (S key), .string (S val), .int .u64 dl]] w fun e w' => e = .returned (.tuple #[]) ∧ LeafAt B p (delE l i) w' ∧ Below B w w' := by
 have hchk := fun w => chk kd key val dl hk hd w
 rw [hc] at hchk
 have hfind := fun v w hv => findE v l key w hv (by omega) hr
 rw [hh, hi] at hfind
 have hon := fun w => on_any old true kd key val dl hvl hk hd w
 simp only [onV, hy] at hon
 obtain ⟨⟨a, c, h1, h2, hne⟩, h3, h4, h5⟩ := h
 have HO := Lib.hid (OnAt.start (kd := kd) (key := key) (val := val) (dl := dl) 39 h1 h2 h3 h4 h5)
 have HF := Lib.hid hfind
 have HN := Lib.hid hon
 clear hfind hon hy hc h1 h2 h3 hr hi hh hk hd
 go_enter Tryz.func93, Tryz.ntmps93
 go_wp2_with fail
 refine (hchk _).mono ?_
 rintro e w1 ⟨rfl, hB1⟩
 have HO1 := Lib.hid (HO.out.on hB1)
 clear HO hchk hB1
 obtain ⟨c1, o1, f1, q0, q1, q2, q3, lt1, low1, -⟩ := HO1.out
 go_wp2_with fail
 go_region_held3 (fun w' => w'.cell? ⟨p, 0, none⟩ = some (.slice a l.length c) ∧ w'.cell? ⟨w.heap.size, 1, none⟩ = some (.string (S key)) ∧ OnAt B p w.heap.size a c l kd key val dl w w')
  (first | assumption | exact ⟨c1, q1, HO1.out.drew⟩ | exact ⟨HO2.out.cell, HO2.out.q1, HO2.out⟩)
  ((go_at_call 88; go_must (obtain ⟨x0, x1, x2⟩ := ‹_ ∧ _ ∧ OnAt _ _ _ _ _ _ _ _ _ _ _ _›; refine (HF.out _ _ ⟨_, rfl, (SlE.of_own x2.own).2⟩).mono ?_; rintro e w2 ⟨rfl, hB2⟩; have HO2 := Lib.hid (x2.on hB2))))
 clear c1 o1 f1 q0 q1 q2 q3 lt1 low1 HO1 HF
 obtain ⟨c2, o2, f2, q0, q1, q2, q3, lt2, low2, -⟩ := HO2.out
 obtain ⟨g, rfl, hgB, hgl, hrow⟩ := own_at o2 (by omega)
 have t1 := hrow (i * 2 + 1) (.string (S l[i].val)) (cellsE_get l i hil 1 _ rfl)
 rw [ho] at t1
 have hi0 : (0 : Int) ≤ (i : Int) := by omega
 have hi1 : (i : Int) < (l.length : Int) := by omega
 clear hrow
 go_wp2_with fail
 refine (HN.out _).mono ?_
 rintro e w3 ⟨rfl, hB3⟩
 have HO3 := Lib.hid (HO2.out.on hB3)
 have hB3' := hB3
 clear c2 o2 f2 q0 q1 q2 q3 lt2 low2 HO2 hB3 HN
 obtain ⟨c3, o3, f3, q0, q1, q2, q3, lt3, low3, base3⟩ := HO3.out
 have hD := Lib.hid (deleteE B (.slice (some ⟨g, 0, none⟩) l.length c) l i w3 o3 hil (by omega))
 have hwr : IntKind.i64.wrap ((i : Int) + 1) = (i : Int) + 1 := by rw [IntKind.wrap_i64]; omega
 have hob := fun k (e : (Value.slice (some ⟨g, 0, none⟩) l.length c).ownBlock = some k) => (o3.lt k e).1
 have hbz := Nat.le_trans base3 low3.size
 clear o3
 go_wp2_with fail
 refine (hD.out).mono ?_
 rintro e w5 ⟨⟨v3, rfl, hown3, hat3⟩, hg3⟩
 have z1 := hg3.cell c3 (by simpa using fun e => hne e.symm)
 have z2 : w5.frozen? ⟨p, 0, none⟩ = false := (World.frozen?_of_block (hg3.block p (by omega) (fun e => hne e.symm))).trans f3
 obtain ⟨a3, c3', e3⟩ := own_form hown3
 subst e3
 go_wp2_with fail
 refine bodyPost_end (v := .tuple #[]) (by simp [results, Tryz.results93, go_sem]) rfl ⟨rfl, LeafAt.put rfl z1 z2 hown3 (by rw [hat3]; exact hne) (Nat.lt_of_lt_of_le lt3 hg3.size) h5, (below_grown low3 hg3 hob hbz).setCell (p := ⟨p, 0, none⟩) h5 _⟩
theorem LeafAt.le {B p : Nat} {l : List Ent} {w : World} (h : LeafAt B p l w) : B ≤ w.heap.size := Nat.le_trans h.base (Nat.le_of_lt h.lt)
theorem leaf_on (B p : Nat) (l : List Ent) (kd : Nat) (key val : List UInt8) (dl : Nat) (w : World) (h : LeafAt B p l w) (hl : l.length ≤ 100000) (hr : Rising Ent.key l) (hv : ∀ e ∈ l, e.val.length ≤ 1000000) (hk : kd < 256) (hd : dl < 18446744073709551616) :
  Calls Tryz.prog 93 #[.pointer (some ⟨p, 0, none⟩), .agg #[.int .u8 kd, .string (S key), .string (S val), .int .u64 dl]] w fun e w' => e = .returned (.tuple #[]) ∧ LeafAt B p (onE l ⟨kd, key, val, dl⟩) w' ∧ Below B w w' := by
 by_cases hc : (Upd.mk kd key val dl).check = 0
 ·have hc' : ¬ (Upd.mk kd key val dl).check ≠ 0 := by simp [hc]
  unfold onE newE
  rw [if_neg hc']
  cases hh : hasKey Ent.key l key with
  | false =>
   obtain ⟨y, is, hy⟩ : ∃ y is, onL [] false ⟨kd, key, val, dl⟩ = (y, is) := ⟨_, _, rfl⟩
   cases is with
   | false => simpa [hh, hy] using on_nothing B p l kd key val dl w h hl hr hk hd hc _ rfl hh y hy
   | true => simpa [hh, hy] using on_new B p l kd key val dl w h hl hr hk hd hc _ rfl hh (below_le l key) y hy
  | true =>
   obtain ⟨hlt, hkey⟩ := (hr.found key).1 hh
   have ho : oldE l key = (l[below Ent.key l key]'hlt).val := by unfold oldE; rw [List.getElem?_eq_getElem hlt]; rfl
   obtain ⟨y, is, hy⟩ : ∃ y is, onL (oldE l key) true ⟨kd, key, val, dl⟩ = (y, is) := ⟨_, _, rfl⟩
   have hvl : (oldE l key).length ≤ 1000000 := by rw [ho]; exact hv _ (List.getElem_mem _)
   cases is with
   | false => simpa [hh, hy] using on_del B p l kd key val dl w h hl hr hk hd hc _ rfl hh hlt hkey _ ho.symm hvl y hy
   | true => simpa [hh, hy] using on_set B p l kd key val dl w h hl hr hk hd hc _ rfl hh hlt hkey _ ho.symm hvl y hy
 ·unfold onE
  rw [if_pos hc]
  refine (on_refused p kd key val dl w hk hd hc).mono ?_
  rintro e w' ⟨rfl, hb⟩
  exact ⟨rfl, h.on hb, hb.mono h.le⟩
end Go.Proofs.YtafciefjlkdecaaGreat
namespace Go.Proofs.YtafciefjlkdecaaGreat
open Go.ChangeShapes Go.WideShapes Go.ChangeAt Go.RowKit
section
variable {H : Type} {enc : TypeId × Value → H} {P : Program} {w : World} {base : Nat} {spare : Nat → Bool} {held : Bool}
end
end Go.Proofs.YtafciefjlkdecaaGreat
namespace Go.Proofs.YtafciefjlkdecaaGreat
open Go.ChangeShapes Go.WideShapes Go.ChangeAt Go.RowKit
structure ArgNums (k : IntKind) (w : World) (v : Value) (l : List Int) : Prop where
 form : ∃ ao c, v = .slice ao l.length c ∧ SlAt (fun x : Int => [Value.int k x]) 1 w ao l ∧ l.length ≤ c ∧ (c : Int) ≤ 9223372036854775807 ∧ (ao = none → c = 0)
 wf : ∀ x ∈ l, (Lit.int k x).wf = true
theorem open_nums {H : Type} {enc : TypeId × Value → H} {P : Program} {w : World} {base : Nat} {spare : Nat → Bool} {held : Bool} {r : Reach} {b0 : Nat} {k : IntKind} {t e : TypeId} {v : Value} {d : DataW H} {p : List MemPlace}
  (ht : P.underlying t = some (.slice e)) (he : P.underlying e = some (.int k)) (hc : P.cellsOf e = 1) (hv : Value.okWide P w r b0 t v) (h : DataW.Trod enc P w base spare held t v d p) : ∃ l, ArgNums k w v l := by
 obtain ⟨a, len, cap, rfl⟩ := okWide_slice ht hv
 obtain ⟨fuel, hf⟩ := h
 rcases open_ints ht he hc hf with ⟨hcs, -⟩ | ⟨a', len', cap', zs, hcs, -, hl, hm, hz, -, hcell, hwz⟩
 ·simp only [Value.cells, List.cons.injEq, and_true, Value.slice.injEq] at hcs
  obtain ⟨rfl, rfl, rfl⟩ := hcs
  exact ⟨[], ⟨none, 0, rfl, Or.inl rfl, Nat.le_refl _, by omega, fun _ => rfl⟩, fun x hx => by simp at hx⟩
 ·simp only [Value.cells, List.cons.injEq, and_true, Value.slice.injEq] at hcs
  obtain ⟨rfl, rfl, rfl⟩ := hcs
  have hlz : len ≤ zs.length := by rw [hz]; split <;> omega
  have hlen : (zs.take len).length = len := by rw [List.length_take]; omega
  refine ⟨zs.take len, ⟨some a', cap, by rw [hlen], ?_, by rw [hlen]; exact hl, by unfold maxLen at hm; omega, fun e => by simp at e⟩, fun x hx => hwz x (List.mem_of_mem_take hx)⟩
  by_cases h0 : 0 < len
  ·obtain ⟨b, off, rfl, hc'⟩ := ints_at hcell (by omega)
   refine Or.inr ⟨b, off, rfl, World.block_lt_of_cell? w _ (hc' 0 (by omega)), fun i hi j x hx => ?_⟩
   have hj : j = 0 := by
    have := (List.getElem?_eq_some_iff.1 hx).1
    simpa using this
   subst hj
   rw [hlen] at hi
   have := hc' i (by omega)
   rw [show off + i * 1 + 0 = off + i by omega, this, ← hx]
   have : i < zs.length := by omega
   simp [this]
  ·exact Or.inl (List.eq_nil_of_length_eq_zero (by omega))
end Go.Proofs.YtafciefjlkdecaaGreat
namespace Go.Proofs.YtafciefjlkdecaaGreat
open Go.ChangeShapes Go.WideShapes Go.ChangeAt Go.RowKit
end Go.Proofs.YtafciefjlkdecaaGreat
namespace Go.Proofs.YtafciefjlkdecaaGreat
open Go.ChangeShapes Go.WideShapes Go.ChangeAt Go.RowKit Go.Deep Go.Joins
theorem weights_mem_all {H : Type} {P : Program} {e : TypeId} : ∀ {ds : List (DataW H)} {d : DataW H}, d ∈ ds → ∀ n ∈ d.weights P e, n ∈ DataW.weightsAll P e ds
 | [], d, hd, _, _ => by simp at hd
 | d0 :: ds, d, hd, n, hn => by
  simp only [DataW.weightsAll, List.mem_append]
  rcases List.mem_cons.1 hd with rfl | hd
  ·exact Or.inl hn
  ·exact Or.inr (weights_mem_all hd n hn)
instance : Inhabited Upd := ⟨⟨0, [], [], 0⟩⟩
end Go.Proofs.YtafciefjlkdecaaGreat
namespace Go.Proofs.YtafciefjlkdecaaGreat
open Go.ChangeShapes Go.WideShapes Go.ChangeAt Go.RowKit Go.Deep Go.Joins
instance : Inhabited Ent := ⟨⟨[], []⟩⟩
open Go.RowKit
theorem RowIs.new' (w : World) (E : TypeId) (cur : List Value) (b : Nat) (hb : b = w.heap.size) : RowIs (w.alloc (.cells cur.toArray E)) E b cur := by subst hb; exact RowIs.new w E cur
theorem RowIs.on {w w' : World} {E : TypeId} {g : Nat} {cur : List Value} (h : RowIs w E g cur) (hb : Below w.heap.size w w') : RowIs w' E g cur := (hb.block g h.lt).trans h
theorem RowIs.put {w : World} {E : TypeId} {g : Nat} {cur : List Value} (h : RowIs w E g cur) (i : Nat) (v : Value) : RowIs (w.setCell ⟨g, i, none⟩ v) E g (cur.set i v) := by
 have := Go.heap_setCell_same w g i cur.toArray E v h
 unfold RowIs
 rw [this]
 simp
theorem RowIs.far {w : World} {E : TypeId} {g : Nat} {cur : List Value} (h : RowIs w E g cur) (a : Addr) (hne : g ≠ a.block) (v : Value) : RowIs (w.setCell a v) E g cur :=
 (Go.heap_setCell_other w a g v hne).trans h
def vxCells (kn : Bool) (pa : Int) (pg ps : Nat) (ld : Bool) (lf cs us ks : Value) : List Value := [.bool kn, .int .i64 pa, .int .u64 pg, .int .u32 ps, .bool ld, lf, cs, us, ks]
def trCells (F B L : Int) (ld : Value) (root : Nat) (h : Int) (gone : Value) (fl le : Int) : List Value := [.int .i64 F, .int .i64 B, .int .i64 L, ld, .pointer (some ⟨root, 0, none⟩), .int .i64 h, gone, .int .i64 fl, .int .i64 le]
structure VxAt (w : World) (b : Nat) (kn : Bool) (pa : Int) (pg ps : Nat) (ld : Bool) (lf cs us ks : Value) : Prop where
 row : RowIs w 108 b (vxCells kn pa pg ps ld lf cs us ks)
structure TrAt (w : World) (b : Nat) (F B L : Int) (ld : Value) (root : Nat) (h : Int) (gone : Value) (fl le : Int) : Prop where
 row : RowIs w 110 b (trCells F B L ld root h gone fl le)
section
variable {w w' : World} {b : Nat} {kn : Bool} {pa : Int} {pg ps : Nat} {ld : Bool} {lf cs us ks : Value}
theorem VxAt.on (h : VxAt w b kn pa pg ps ld lf cs us ks) (hb : Below w.heap.size w w') : VxAt w' b kn pa pg ps ld lf cs us ks := ⟨h.row.on hb⟩
theorem VxAt.kept {B : Nat} (h : VxAt w b kn pa pg ps ld lf cs us ks) (hb : Below B w w') (hB : w.heap.size ≤ B) : VxAt w' b kn pa pg ps ld lf cs us ks := ⟨h.row.on (hb.mono hB)⟩
theorem VxAt.lt (h : VxAt w b kn pa pg ps ld lf cs us ks) : b < w.heap.size := h.row.lt
theorem VxAt.c0 (h : VxAt w b kn pa pg ps ld lf cs us ks) : w.cell? ⟨b, 0, none⟩ = some (.bool kn) := h.row.cell 0
theorem VxAt.c1 (h : VxAt w b kn pa pg ps ld lf cs us ks) : w.cell? ⟨b, 1, none⟩ = some (.int .i64 pa) := h.row.cell 1
theorem VxAt.c2 (h : VxAt w b kn pa pg ps ld lf cs us ks) : w.cell? ⟨b, 2, none⟩ = some (.int .u64 pg) := h.row.cell 2
theorem VxAt.c3 (h : VxAt w b kn pa pg ps ld lf cs us ks) : w.cell? ⟨b, 3, none⟩ = some (.int .u32 ps) := h.row.cell 3
theorem VxAt.c4 (h : VxAt w b kn pa pg ps ld lf cs us ks) : w.cell? ⟨b, 4, none⟩ = some (.bool ld) := h.row.cell 4
theorem VxAt.c5 (h : VxAt w b kn pa pg ps ld lf cs us ks) : w.cell? ⟨b, 5, none⟩ = some lf := h.row.cell 5
theorem VxAt.c6 (h : VxAt w b kn pa pg ps ld lf cs us ks) : w.cell? ⟨b, 6, none⟩ = some cs := h.row.cell 6
theorem VxAt.c7 (h : VxAt w b kn pa pg ps ld lf cs us ks) : w.cell? ⟨b, 7, none⟩ = some us := h.row.cell 7
theorem VxAt.c8 (h : VxAt w b kn pa pg ps ld lf cs us ks) : w.cell? ⟨b, 8, none⟩ = some ks := h.row.cell 8
theorem VxAt.fz (h : VxAt w b kn pa pg ps ld lf cs us ks) (o : Nat) : w.frozen? ⟨b, o, none⟩ = false := h.row.frozen o
theorem VxAt.far (h : VxAt w b kn pa pg ps ld lf cs us ks) (a : Addr) (hne : b ≠ a.block) (v : Value) : VxAt (w.setCell a v) b kn pa pg ps ld lf cs us ks := ⟨h.row.far a hne v⟩
theorem VxAt.putL (h : VxAt w b kn pa pg ps ld lf cs us ks) (v : Value) : VxAt (w.setCell ⟨b, 5, none⟩ v) b kn pa pg ps ld v cs us ks := ⟨h.row.put 5 v⟩
end
section
variable {w w' : World} {b : Nat} {F B L : Int} {ld : Value} {root : Nat} {h' : Int} {gone : Value} {fl le : Int}
theorem TrAt.on (h : TrAt w b F B L ld root h' gone fl le) (hb : Below w.heap.size w w') : TrAt w' b F B L ld root h' gone fl le := ⟨h.row.on hb⟩
theorem TrAt.kept {N : Nat} (h : TrAt w b F B L ld root h' gone fl le) (hb : Below N w w') (hN : w.heap.size ≤ N) : TrAt w' b F B L ld root h' gone fl le := ⟨h.row.on (hb.mono hN)⟩
theorem TrAt.lt (h : TrAt w b F B L ld root h' gone fl le) : b < w.heap.size := h.row.lt
theorem TrAt.c0 (h : TrAt w b F B L ld root h' gone fl le) : w.cell? ⟨b, 0, none⟩ = some (.int .i64 F) := h.row.cell 0
theorem TrAt.c1 (h : TrAt w b F B L ld root h' gone fl le) : w.cell? ⟨b, 1, none⟩ = some (.int .i64 B) := h.row.cell 1
theorem TrAt.c2 (h : TrAt w b F B L ld root h' gone fl le) : w.cell? ⟨b, 2, none⟩ = some (.int .i64 L) := h.row.cell 2
theorem TrAt.c3 (h : TrAt w b F B L ld root h' gone fl le) : w.cell? ⟨b, 3, none⟩ = some ld := h.row.cell 3
theorem TrAt.c4 (h : TrAt w b F B L ld root h' gone fl le) : w.cell? ⟨b, 4, none⟩ = some (.pointer (some ⟨root, 0, none⟩)) := h.row.cell 4
theorem TrAt.c5 (h : TrAt w b F B L ld root h' gone fl le) : w.cell? ⟨b, 5, none⟩ = some (.int .i64 h') := h.row.cell 5
theorem TrAt.c6 (h : TrAt w b F B L ld root h' gone fl le) : w.cell? ⟨b, 6, none⟩ = some gone := h.row.cell 6
theorem TrAt.c7 (h : TrAt w b F B L ld root h' gone fl le) : w.cell? ⟨b, 7, none⟩ = some (.int .i64 fl) := h.row.cell 7
theorem TrAt.c8 (h : TrAt w b F B L ld root h' gone fl le) : w.cell? ⟨b, 8, none⟩ = some (.int .i64 le) := h.row.cell 8
theorem TrAt.fz (h : TrAt w b F B L ld root h' gone fl le) (o : Nat) : w.frozen? ⟨b, o, none⟩ = false := h.row.frozen o
end
theorem small_any (w : World) : Calls Tryz.prog 18 #[] w fun e w' => e = .returned (.agg #[.int .i64 3, .int .i64 4, .int .i64 3]) ∧ Below w.heap.size w w' := by
 go_enter Tryz.func18, Tryz.ntmps18
 go_wp2_with fail
 exact bodyPost_ret (v := .agg #[.int .i64 3, .int .i64 4, .int .i64 3]) (by simp [results, Tryz.results18, go_sem]) rfl ⟨rfl, by go_grown⟩
theorem new_any (F B L : Int) (fn : Fn) (xs ys : Array Value) (w : World) :
  Calls Tryz.prog 10 #[.agg #[.int .i64 F, .int .i64 B, .int .i64 L], .func fn xs ys] w fun e w' => e = .returned (.pointer (some ⟨w.heap.size + 1 + 1, 0, none⟩)) ∧ TrAt w' (w.heap.size + 1 + 1) F B L (.func fn xs ys) (w.heap.size + 1) 1 (.slice none 0 0) 0 0 ∧ VxAt w' (w.heap.size + 1) false 0 0 0 true (.slice none 0 0) (.slice none 0 0) (.slice none 0 0) (.slice none 0 0) ∧ Below w.heap.size w w' := by
 go_enter Tryz.func10, Tryz.ntmps10
 go_wp2_with fail
 go_ret
 exact ⟨rfl, ⟨RowIs.new' _ _ (trCells F B L (.func fn xs ys) (w.heap.size + 1) 1 (.slice none 0 0) 0 0) _ (by simp)⟩, ⟨(RowIs.new' _ _ (vxCells false 0 0 0 true (.slice none 0 0) (.slice none 0 0) (.slice none 0 0) (.slice none 0 0)) _ (by simp)).alloc _⟩, by go_grown⟩
theorem open_some (F B L : Int) (fn : Fn) (xs ys : Array Value) (pa : Int) (pg ps : Nat) (h : Int) (w : World) (h1 : 1 ≤ h) (h2 : h ≤ 32) :
  Calls Tryz.prog 22 #[.agg #[.int .i64 F, .int .i64 B, .int .i64 L], .func fn xs ys, .agg #[.int .i64 pa, .int .u64 pg, .int .u32 ps], .int .i64 h] w fun e w' => e = .returned (.tuple #[.pointer (some ⟨w.heap.size + 1 + 1 + 1, 0, none⟩), .int .i64 0]) ∧ TrAt w' (w.heap.size + 1 + 1 + 1) F B L (.func fn xs ys) (w.heap.size + 1 + 1) h (.slice none 0 0) 0 0 ∧ VxAt w' (w.heap.size + 1 + 1) true pa pg ps false (.slice none 0 0) (.slice none 0 0) (.slice none 0 0) (.slice none 0 0) ∧ Below w.heap.size w w' := by
 have e1 : decide (h < 1) = false := by simpa using h1
 have e2 : decide (32 < h) = false := by simpa using h2
 clear h1 h2
 go_enter Tryz.func22, Tryz.ntmps22
 go_wp2_with fail
 go_returns
 exact ⟨rfl, ⟨RowIs.new' _ _ (trCells F B L (.func fn xs ys) (w.heap.size + 1 + 1) h (.slice none 0 0) 0 0) _ (by simp)⟩, ⟨(RowIs.new' _ _ (vxCells true pa pg ps false (.slice none 0 0) (.slice none 0 0) (.slice none 0 0) (.slice none 0 0)) _ (by simp)).alloc _⟩, by go_grown⟩
theorem height_any {b : Nat} {F B L : Int} {ld : Value} {root : Nat} {h' : Int} {gone : Value} {fl le : Int} (w : World) (h : TrAt w b F B L ld root h' gone fl le) : Calls Tryz.prog 14 #[.pointer (some ⟨b, 0, none⟩)] w fun e w' => e = .returned (.int .i64 h') ∧ Below w.heap.size w w' := by
 have c5 := h.c5
 go_enter Tryz.func14, Tryz.ntmps14
 go_wp2_with fail
 go_ret
 exact ⟨rfl, by go_grown⟩
open Go.RowKit
def lookE (l : List Ent) (k : List UInt8) : Option (List UInt8) := (l.find? fun e => e.key == k).map Ent.val
def actE (u : Upd) (o : Option (List UInt8)) : Option (List UInt8) :=
 if u.check ≠ 0 then o
 else
  let r := match o with
   | some v => onL v true u
   | none => onL [] false u
  if r.2 then some r.1 else none
theorem lookE_none {l : List Ent} {k : List UInt8} (h : hasKey Ent.key l k = false) : lookE l k = none := by
 unfold lookE
 rw [Option.map_eq_none_iff, List.find?_eq_none]
 intro e he hk
 have : hasKey Ent.key l k = true := hasKey_iff.2 ⟨e, he, by simpa using hk⟩
 rw [h] at this; exact absurd this (by simp)
theorem lookE_at {l : List Ent} (hr : Rising Ent.key l) (i : Nat) (hi : i < l.length) : lookE l l[i].key = some l[i].val := by
 unfold lookE
 rw [List.find?_eq_some_iff_getElem.2 ⟨by simp, i, hi, rfl, fun j hj => by simpa using bl_ne (hr.lt hj hi)⟩]
 rfl
theorem lookE_mem {l : List Ent} (hr : Rising Ent.key l) (e : Ent) (he : e ∈ l) : lookE l e.key = some e.val := by
 obtain ⟨i, hi, rfl⟩ := List.getElem_of_mem he
 exact lookE_at hr i hi
theorem mem_lookE {l : List Ent} {k v : List UInt8} (h : lookE l k = some v) : (⟨k, v⟩ : Ent) ∈ l := by
 unfold lookE at h
 rw [Option.map_eq_some_iff] at h
 obtain ⟨e, he, hv⟩ := h
 have h1 := List.find?_some he
 have h2 := List.mem_of_find?_eq_some he
 have : e = ⟨k, v⟩ := by cases e; simp at h1 hv; rw [h1, hv]
 rwa [this] at h2
theorem insE_mem {l : List Ent} {i : Nat} {u x : Ent} : x ∈ insE l i u ↔ x = u ∨ x ∈ l := by
 unfold insE
 rw [List.mem_append, List.mem_cons]
 have : x ∈ l ↔ x ∈ l.take i ∨ x ∈ l.drop i := by rw [← List.mem_append, List.take_append_drop]
 rw [this]
 constructor
 ·rintro (h | h | h)
  ·exact Or.inr (Or.inl h)
  ·exact Or.inl h
  ·exact Or.inr (Or.inr h)
 ·rintro (h | h | h)
  ·exact Or.inr (Or.inl h)
  ·exact Or.inl h
  ·exact Or.inr (Or.inr h)
theorem hasKeyE_not {l : List Ent} {k : List UInt8} (hno : hasKey Ent.key l k = false) : ∀ x ∈ l, x.key ≠ k := fun x hx e => by
 have : hasKey Ent.key l k = true := hasKey_iff.2 ⟨x, hx, e⟩
 rw [hno] at this; exact absurd this (by simp)
theorem insE_rising {l : List Ent} (hr : Rising Ent.key l) (u : Ent) (hno : hasKey Ent.key l u.key = false) : Rising Ent.key (insE l (below Ent.key l u.key) u) := by
 have hne := hasKeyE_not hno
 unfold insE
 have h1 : ∀ a ∈ l.take (below Ent.key l u.key), bl a.key u.key = true := by
  intro a ha
  obtain ⟨i, hi, rfl⟩ := List.getElem_of_mem ha
  rw [List.length_take] at hi
  rw [List.getElem_take]
  exact (hr.below u.key i (by omega)).2 (by omega)
 have h2 : ∀ b ∈ l.drop (below Ent.key l u.key), bl u.key b.key = true := by
  intro b hb
  obtain ⟨i, hi, rfl⟩ := List.getElem_of_mem hb
  rw [List.length_drop] at hi
  rw [List.getElem_drop]
  have hb' : ¬ bl (l[below Ent.key l u.key + i]'(by omega)).key u.key = true := by
   rw [hr.below u.key _ (by omega)]; omega
  rcases bl_not (Bool.not_eq_true _ ▸ hb' : bl (l[below Ent.key l u.key + i]'(by omega)).key u.key = false) with e | e
  ·exact absurd e.symm (hne _ (List.getElem_mem _))
  ·exact e
 have h3 : Rising Ent.key (l.take (below Ent.key l u.key) ++ l.drop (below Ent.key l u.key)) := by rw [List.take_append_drop]; exact hr
 have h4 := List.pairwise_append.1 h3
 refine List.pairwise_append.2 ⟨h4.1, List.pairwise_cons.2 ⟨h2, h4.2.1⟩, fun a ha b hb => ?_⟩
 rcases List.mem_cons.1 hb with rfl | hb
 ·exact h1 a ha
 ·exact h4.2.2 a ha b hb
theorem delE_eq (l : List Ent) (i : Nat) : delE l i = l.eraseIdx i := by rw [delE, List.eraseIdx_eq_take_drop_succ]
theorem delE_sub (l : List Ent) (i : Nat) : (delE l i).Sublist l := by rw [delE_eq]; exact List.eraseIdx_sublist l i
theorem delE_rising {l : List Ent} (hr : Rising Ent.key l) (i : Nat) : Rising Ent.key (delE l i) := List.Pairwise.sublist (delE_sub l i) hr
theorem setE_rising {l : List Ent} (hr : Rising Ent.key l) (i : Nat) (hi : i < l.length) (y : List UInt8) : Rising Ent.key (l.set i ⟨l[i].key, y⟩) := by
 have e : ∀ m : List Ent, Rising Ent.key m ↔ (m.map Ent.key).Pairwise (fun a b => bl a b = true) := fun m => by unfold Rising; rw [List.pairwise_map]
 rw [e, List.map_set]
 have : (l.map Ent.key).set i l[i].key = l.map Ent.key := by
  apply List.ext_getElem (by simp)
  intro j h1 h2
  rw [List.getElem_set]
  split
  ·rename_i e; subst e; simp
  ·rfl
 rw [this, ← e]
 exact hr
theorem lookE_iff {l : List Ent} (hr : Rising Ent.key l) (k v : List UInt8) : lookE l k = some v ↔ (⟨k, v⟩ : Ent) ∈ l := ⟨mem_lookE, fun h => lookE_mem hr _ h⟩
theorem lookE_by {l : List Ent} (hr : Rising Ent.key l) (k : List UInt8) (o : Option (List UInt8)) (h : ∀ v, (⟨k, v⟩ : Ent) ∈ l ↔ o = some v) : lookE l k = o := by
 cases hl : lookE l k with
 | some v => exact ((h v).1 ((lookE_iff hr k v).1 hl)).symm
 | none =>
  cases o with
  | none => rfl
  | some v => rw [(lookE_iff hr k v).2 ((h v).2 rfl)] at hl; exact hl.symm
theorem mem_delE {l : List Ent} (hr : Rising Ent.key l) (i : Nat) (hi : i < l.length) (e : Ent) : e ∈ delE l i ↔ e ∈ l ∧ e.key ≠ l[i].key := by
 constructor
 ·intro h
  refine ⟨(delE_sub l i).subset h, fun hk => ?_⟩
  unfold delE at h
  rcases List.mem_append.1 h with h | h
  ·obtain ⟨j, hj, rfl⟩ := List.getElem_of_mem h
   rw [List.length_take] at hj
   rw [List.getElem_take] at hk
   exact bl_ne (hr.lt (show j < i by omega) hi) hk
  ·obtain ⟨j, hj, rfl⟩ := List.getElem_of_mem h
   rw [List.length_drop] at hj
   rw [List.getElem_drop] at hk
   exact bl_ne (hr.lt (show i < i + 1 + j by omega) (by omega)) hk.symm
 ·rintro ⟨h, hk⟩
  obtain ⟨j, hj, rfl⟩ := List.getElem_of_mem h
  unfold delE
  rw [List.mem_append]
  have hji : j ≠ i := fun e => hk (by subst e; rfl)
  rcases Nat.lt_or_ge j i with h1 | h1
  ·exact Or.inl (List.mem_take_iff_getElem.2 ⟨j, by omega, rfl⟩)
  ·exact Or.inr (List.mem_drop_iff_getElem.2 ⟨j - (i + 1), by omega, by congr 1; omega⟩)
theorem mem_setE {l : List Ent} (hr : Rising Ent.key l) (i : Nat) (hi : i < l.length) (y : List UInt8) (e : Ent) : e ∈ l.set i ⟨l[i].key, y⟩ ↔ e = ⟨l[i].key, y⟩ ∨ (e ∈ l ∧ e.key ≠ l[i].key) := by
 rw [List.mem_iff_getElem]
 constructor
 ·rintro ⟨j, hj, he⟩
  rw [List.length_set] at hj
  rw [List.getElem_set] at he
  split at he
  ·exact Or.inl he.symm
  ·rename_i hij
   refine Or.inr ⟨he ▸ List.getElem_mem hj, fun hk => ?_⟩
   rw [← he] at hk
   rcases Nat.lt_or_gt_of_ne hij with h1 | h1
   ·exact bl_ne (hr.lt h1 hj) hk.symm
   ·exact bl_ne (hr.lt h1 hi) hk
 ·rintro (rfl | ⟨h, hk⟩)
  ·exact ⟨i, by rw [List.length_set]; exact hi, by simp⟩
  ·obtain ⟨j, hj, rfl⟩ := List.getElem_of_mem h
   refine ⟨j, by rw [List.length_set]; exact hj, ?_⟩
   rw [List.getElem_set, if_neg (fun e => hk (by subst e; rfl))]
theorem onE_cases (l : List Ent) (u : Upd) (hr : Rising Ent.key l) :
  (onE l u = l ∧ actE u (lookE l u.key) = lookE l u.key) ∨
  (hasKey Ent.key l u.key = false ∧ ∃ y, actE u (lookE l u.key) = some y ∧ onL [] false u = (y, true) ∧ u.check = 0 ∧ onE l u = insE l (below Ent.key l u.key) ⟨u.key, y⟩) ∨
  (∃ (i : Nat) (hi : i < l.length), l[i].key = u.key ∧ ∃ y, actE u (lookE l u.key) = some y ∧ onL l[i].val true u = (y, true) ∧ u.check = 0 ∧ onE l u = l.set i ⟨l[i].key, y⟩) ∨
  (∃ (i : Nat) (hi : i < l.length), l[i].key = u.key ∧ actE u (lookE l u.key) = none ∧ onE l u = delE l i) := by
 by_cases hc : u.check = 0
 ·have hc' : ¬ u.check ≠ 0 := by simp [hc]
  unfold onE newE actE
  rw [if_neg hc', if_neg hc']
  cases hh : hasKey Ent.key l u.key with
  | false =>
   rw [lookE_none hh]
   cases hy : onL [] false u with
   | mk y is => cases is <;> simp [hc]
  | true =>
   obtain ⟨hlt, hkey⟩ := (hr.found u.key).1 hh
   have ho : oldE l u.key = (l[below Ent.key l u.key]'hlt).val := by unfold oldE; rw [List.getElem?_eq_getElem hlt]; rfl
   have hl := lookE_at hr _ hlt
   rw [hkey] at hl
   rw [hl, ho]
   generalize below Ent.key l u.key = i at *
   cases hy : onL (l[i]'hlt).val true u with
   | mk y is =>
    cases is with
    | true => exact Or.inr (Or.inr (Or.inl ⟨i, hlt, hkey, y, by simp [hy], hy, hc, by simp [hkey]⟩))
    | false => exact Or.inr (Or.inr (Or.inr ⟨i, hlt, hkey, by simp [hy], by simp⟩))
 ·left
  unfold onE actE
  rw [if_pos hc, if_pos hc]
  exact ⟨rfl, rfl⟩
theorem onE_rising {l : List Ent} (hr : Rising Ent.key l) (u : Upd) : Rising Ent.key (onE l u) := by
 rcases onE_cases l u hr with ⟨e, -⟩ | ⟨hno, y, -, -, -, e⟩ | ⟨i, hi, -, y, -, -, -, e⟩ | ⟨i, hi, -, -, e⟩
 ·rw [e]; exact hr
 ·rw [e]; exact insE_rising hr ⟨u.key, y⟩ hno
 ·rw [e]; exact setE_rising hr i hi y
 ·rw [e]; exact delE_rising hr i
theorem onE_len {l : List Ent} (hr : Rising Ent.key l) (u : Upd) : (onE l u).length ≤ l.length + 1 := by
 rcases onE_cases l u hr with ⟨e, -⟩ | ⟨hno, y, -, -, -, e⟩ | ⟨i, hi, -, y, -, -, -, e⟩ | ⟨i, hi, -, -, e⟩
 ·rw [e]; omega
 ·rw [e, insE_len _ _ _ (below_le _ _)]; omega
 ·rw [e, List.length_set]; omega
 ·rw [e, delE_len _ _ hi]; omega
def FineE (l : List Ent) : Prop := ∀ e ∈ l, 1 ≤ e.key.length ∧ e.key.length ≤ 16 ∧ e.val.length ≤ 32
theorem onE_fine {l : List Ent} (hr : Rising Ent.key l) (hf : FineE l) (u : Upd) : FineE (onE l u) := by
 rcases onE_cases l u hr with ⟨e, -⟩ | ⟨hno, y, -, hy, hc, e⟩ | ⟨i, hi, hk, y, -, hy, hc, e⟩ | ⟨i, hi, -, -, e⟩
 ·rw [e]; exact hf
 ·rw [e]
  intro x hx
  obtain ⟨c1, c2, c3, -⟩ := Upd.check_ok hc
  rcases insE_mem.1 hx with rfl | hx
  ·have := onL_len [] false u 32 (by simp) c3 (by decide)
   rw [hy] at this
   exact ⟨c1, c2, this⟩
  ·exact hf x hx
 ·rw [e]
  intro x hx
  obtain ⟨c1, c2, c3, -⟩ := Upd.check_ok hc
  rcases (mem_setE hr i hi y x).1 hx with rfl | ⟨hx, -⟩
  ·have h0 := hf _ (List.getElem_mem hi)
   have := onL_len l[i].val true u 32 h0.2.2 c3 (by decide)
   rw [hy] at this
   exact ⟨h0.1, h0.2.1, this⟩
  ·exact hf x hx
 ·rw [e]
  exact fun x hx => hf x ((delE_sub l i).subset hx)
theorem onE_look {l : List Ent} (hr : Rising Ent.key l) (u : Upd) (k : List UInt8) : lookE (onE l u) k = if k = u.key then actE u (lookE l k) else lookE l k := by
 have hr' := onE_rising hr u
 by_cases hk : k = u.key
 ·subst hk
  rw [if_pos rfl]
  rcases onE_cases l u hr with ⟨e, h⟩ | ⟨hno, y, h, -, -, e⟩ | ⟨i, hi, hki, y, h, -, -, e⟩ | ⟨i, hi, hki, h, e⟩
  ·rw [e, h]
  ·rw [h]
   exact (lookE_iff hr' _ _).2 (by rw [e]; exact insE_mem.2 (Or.inl rfl))
  ·rw [h]
   exact (lookE_iff hr' _ _).2 (by rw [e]; exact (mem_setE hr i hi y _).2 (Or.inl (by rw [hki])))
  ·rw [h]
   refine lookE_by hr' _ _ fun v => ⟨fun hm => ?_, fun hm => by cases hm⟩
   rw [e] at hm
   exact absurd hki.symm ((mem_delE hr i hi _).1 hm).2
 ·rw [if_neg hk]
  refine lookE_by hr' _ _ fun v => ?_
  rw [lookE_iff hr]
  rcases onE_cases l u hr with ⟨e, h⟩ | ⟨hno, y, h, -, -, e⟩ | ⟨i, hi, hki, y, h, -, -, e⟩ | ⟨i, hi, hki, h, e⟩
  ·rw [e]
  ·rw [e, insE_mem]
   exact ⟨fun h => h.resolve_left (fun e' => hk (congrArg Ent.key e')), Or.inr⟩
  ·rw [e, mem_setE hr i hi, hki]
   exact ⟨fun h => (h.resolve_left (fun e' => hk (congrArg Ent.key e'))).1, fun h => Or.inr ⟨h, hk⟩⟩
  ·rw [e, mem_delE hr i hi, hki]
   exact ⟨fun h => h.1, fun h => ⟨h, hk⟩⟩
def onAll (l : List Ent) (us : List Upd) : List Ent := us.foldl onE l
theorem onAll_snoc (l : List Ent) (us : List Upd) (u : Upd) : onAll l (us ++ [u]) = onE (onAll l us) u := by simp [onAll]
theorem onAll_ok (l : List Ent) (hr : Rising Ent.key l) (hf : FineE l) : ∀ us : List Upd, Rising Ent.key (onAll l us) ∧ FineE (onAll l us) ∧ (onAll l us).length ≤ l.length + us.length := by
 intro us
 induction us using snoc_ind with
 | h0 => exact ⟨hr, hf, by simp [onAll]⟩
 | h1 us u ih =>
  obtain ⟨h1, h2, h3⟩ := ih
  rw [onAll_snoc]
  refine ⟨onE_rising h1 u, onE_fine h1 h2 u, ?_⟩
  have := onE_len h1 u
  simp only [List.length_append, List.length_singleton]
  omega
theorem onAll_look (l : List Ent) (hr : Rising Ent.key l) (hf : FineE l) : ∀ us : List Upd, (us.map Upd.key).Nodup → ∀ k, lookE (onAll l us) k = match us.find? (fun u => u.key == k) with | some u => actE u (lookE l k) | none => lookE l k := by
 intro us
 induction us using snoc_ind with
 | h0 => intro _ k; rfl
 | h1 us u ih =>
  intro hn k
  rw [List.map_append, List.nodup_append] at hn
  have h := ih hn.1 k
  rw [onAll_snoc, onE_look (onAll_ok l hr hf us).1, h, List.find?_append]
  by_cases hk : k = u.key
  ·subst hk
   rw [if_pos rfl]
   have : us.find? (fun v => v.key == u.key) = none := by
    rw [List.find?_eq_none]
    intro v hv e
    exact hn.2.2 v.key (List.mem_map.2 ⟨v, hv, rfl⟩) u.key (by simp) (by simpa using e)
   rw [this]
   simp
  ·rw [if_neg hk]
   cases hu : us.find? (fun v => v.key == k) with
   | some v => simp
   | none =>
    have : (u.key == k) = false := by simpa using fun e => hk e.symm
    simp [this]
open Go.RowKit
attribute [local go_sem ↓] Go.wp_at_zero Go.wp_at_succ
def tmax (a b : Int) : Int := if b > a then b else a
theorem run_tmax {P : Program} (ts : Array TypeId) (t : TypeId) (a b : Int) (w : World) : (Builtin.max_ ts t #[.int .i64 a, .int .i64 b]).run P w = .ok (.int .i64 (tmax a b)) w := by
 rw [run_max_int2]; rfl
def partsN (L m : Nat) : Nat := if L = 0 then 1 else (L - 1) / m + 1
theorem partsN_pos (L m : Nat) : 0 < partsN L m := by
 unfold partsN
 generalize (L - 1) / m = q
 split <;> omega
theorem partsN_le (L m : Nat) : partsN L m ≤ L + 1 := by
 unfold partsN
 split
 ·omega
 ·have := Nat.div_le_self (L - 1) m; omega
theorem partsN_is (L : Nat) (hL : L ≤ 100000) (m : Int) (h1 : 1 ≤ m) (h2 : m ≤ 9223372036854775807) : tmax 1 (IntKind.i64.wrap ((IntKind.i64.wrap (IntKind.i64.wrap ((L : Int) + m) - 1)).tdiv m)) = (partsN L m.toNat : Nat) := by
 obtain ⟨k, rfl⟩ : ∃ k : Nat, m = (k : Int) := ⟨m.toNat, by omega⟩
 simp only [Int.toNat_natCast]
 have hk : 0 < k := by omega
 have hfin : ∀ x : Int, -9223372036854775808 ≤ x → x ≤ 0 → partsN L k = 1 → tmax 1 (IntKind.i64.wrap x) = (partsN L k : Nat) := fun x hx0 hx e => by rw [e, IntWalk.i64_in x (by omega)]; unfold tmax; split <;> omega
 by_cases hs : (L : Int) + k - 1 ≤ 9223372036854775807
 ·have e : IntKind.i64.wrap (IntKind.i64.wrap ((L : Int) + k) - 1) = (L : Int) + k - 1 := by
   by_cases h : (L : Int) + k ≤ 9223372036854775807
   ·rw [IntWalk.i64_in ((L : Int) + k) (by omega), IntWalk.i64_in _ (by omega)]
   ·have : (L : Int) + k = 9223372036854775808 := by omega
    rw [this]; rfl
  rw [e]
  by_cases h0 : L = 0
  ·subst h0
   have ez : (((0 : Nat) : Int) + k - 1).tdiv k = 0 := by
    rw [Int.tdiv_eq_ediv_of_nonneg (by omega)]
    exact Int.ediv_eq_zero_of_lt (by omega) (by omega)
   rw [ez]
   exact hfin 0 (by decide) (by decide) rfl
  ·obtain ⟨j, rfl⟩ : ∃ j, L = j + 1 := ⟨L - 1, by omega⟩
   have e2 : ((j + 1 : Nat) : Int) + k - 1 = ((j + k : Nat) : Int) := by omega
   rw [e2, Int.tdiv_eq_ediv_of_nonneg (by omega), ← Int.natCast_ediv, Nat.add_div_right _ hk]
   have e3 : partsN (j + 1) k = j / k + 1 := by unfold partsN; rw [if_neg (by omega), Nat.add_sub_cancel]
   have e4 := Nat.div_le_self j k
   rw [e3]
   generalize j / k = q at *
   rw [IntWalk.i64_in _ (by omega)]
   unfold tmax
   split <;> omega
 ·have hp : partsN L k = 1 := by
   unfold partsN
   split
   ·rfl
   ·rw [Nat.div_eq_of_lt (by omega)]
  have e1 : IntKind.i64.wrap ((L : Int) + k) = (L : Int) + k - 18446744073709551616 := by rw [IntKind.wrap_i64]; omega
  have e2 : IntKind.i64.wrap ((L : Int) + k - 18446744073709551616 - 1) = (L : Int) + k - 18446744073709551616 - 1 := by rw [IntKind.wrap_i64]; omega
  rw [e1, e2]
  generalize hx : (L : Int) + k - 18446744073709551616 - 1 = x
  have hx0 : x ≤ 0 := by omega
  obtain ⟨y, rfl⟩ : ∃ y : Nat, x = -(y : Int) := ⟨(-x).toNat, by omega⟩
  rw [Int.neg_tdiv, Int.tdiv_eq_ediv_of_nonneg (by omega), ← Int.natCast_ediv]
  have := Nat.div_le_self y k
  generalize y / k = q at *
  exact hfin _ (by omega) (by omega) hp
def partAt (L n k : Nat) : Nat := k * (L / n) + min k (L % n)
def partOf (l : List Ent) (n k : Nat) : List Ent := (l.take (partAt l.length n (k + 1))).drop (partAt l.length n k)
theorem partAt_zero (L n : Nat) : partAt L n 0 = 0 := by simp [partAt]
theorem partAt_succ (L n k : Nat) : partAt L n (k + 1) = partAt L n k + L / n + (if k < L % n then 1 else 0) := by
 unfold partAt
 rw [Nat.succ_mul]
 split <;> omega
theorem partAt_all (L n : Nat) (hn : 0 < n) : partAt L n n = L := by
 unfold partAt
 have := Nat.div_add_mod L n
 have h2 := Nat.mod_lt L hn
 rw [Nat.min_eq_right (by omega)]
 exact this
theorem partAt_mono (L n k j : Nat) (h : k ≤ j) : partAt L n k ≤ partAt L n j := by
 unfold partAt
 have := Nat.mul_le_mul_right (L / n) h
 omega
theorem partAt_le (L n k : Nat) (hn : 0 < n) (h : k ≤ n) : partAt L n k ≤ L := by
 have := partAt_mono L n k n h
 rwa [partAt_all L n hn] at this
theorem partOf_len (l : List Ent) (n k : Nat) (hn : 0 < n) (h : k < n) : (partOf l n k).length = l.length / n + (if k < l.length % n then 1 else 0) := by
 unfold partOf
 have h1 := partAt_le l.length n (k + 1) hn (by omega)
 have h2 := partAt_succ l.length n k
 rw [List.length_drop, List.length_take, Nat.min_eq_left h1, h2]
 generalize l.length / n = q
 generalize (if k < l.length % n then 1 else 0) = q2
 omega
def PartIs (w : World) (x : Value) (l : List Ent) : Prop := ∃ a c B, x = .slice a l.length c ∧ w.ownsRow B 73 2 (.slice a l.length c) l.length (cellsE l)
theorem PartIs.kept {w w' : World} {x : Value} {l : List Ent} (h : PartIs w x l) (hb : Below w.heap.size w w') : PartIs w' x l := by
 obtain ⟨a, c, B, e, h⟩ := h
 exact ⟨a, c, B, e, own_below h hb⟩
structure PartsAt (B : Nat) (v : Value) (ls : Nat → List Ent) (n : Nat) (w : World) : Prop where
 form : ∃ vs, w.ownsRow B 99 1 v n vs ∧ ∀ j, j < n → ∃ x, vs[j]? = some x ∧ PartIs w x (ls j)
theorem PartsAt.on {B : Nat} {v : Value} {ls : Nat → List Ent} {n : Nat} {w w' : World} (h : PartsAt B v ls n w) (hb : Below w.heap.size w w') : PartsAt B v ls n w' := by
 obtain ⟨vs, h1, h2⟩ := h
 exact ⟨vs, own_below h1 hb, fun j hj => by obtain ⟨x, hx, hp⟩ := h2 j hj; exact ⟨x, hx, hp.kept hb⟩⟩
theorem own_types {w : World} {B B' : Nat} {E E' : TypeId} {k k' n n' : Nat} {v v' : Value} {xs xs' : List Value} (h : w.ownsRow B E k v n xs) (h' : w.ownsRow B' E' k' v' n' xs') (hne : E ≠ E') : v.ownBlock = none ∨ v.ownBlock ≠ v'.ownBlock := by
 rcases ownsRow_open h with ⟨rfl, -, -⟩ | ⟨g, cap, cur, rfl, -, hr, -⟩
 ·exact Or.inl rfl
 ·refine Or.inr fun e => ?_
  rcases ownsRow_open h' with ⟨rfl, -, -⟩ | ⟨g', cap', cur', rfl, -, hr', -⟩
  ·simp [Value.ownBlock] at e
  ·simp only [Value.ownBlock, Option.some.injEq] at e
   subst e
   have := hr.symm.trans hr'
   simp at this
   exact hne this.2
theorem parts_put {B B2 : Nat} {v v' : Value} {ls : Nat → List Ent} {n : Nat} {wr w2 w3 : World} {vs : List Value} {a2 : Option Addr} {m c2 : Nat} {t : TypeId} (h1 : wr.ownsRow B 99 1 v n vs) (h2 : ∀ j, j < n → ∃ x, vs[j]? = some x ∧ PartIs wr x (ls j)) (hb : Below wr.heap.size wr w2)
  (hm : m = (ls n).length) (hown2 : w2.ownsRow B2 73 2 (.slice a2 m c2) m (cellsE (ls n))) (hown' : w3.ownsRow B 99 1 v' (n + 1) (vs ++ [.slice a2 m c2])) (hg : (w2.alloc (.cells #[.slice a2 m c2] t)).grownBy w3 v.ownBlock) : PartsAt B v' ls (n + 1) w3 := by
 subst hm
 have hv2 : (w2.alloc (.cells #[.slice a2 (ls n).length c2] t)).ownsRow B 99 1 v n vs := (own_below h1 hb).alloc _
 have hl : vs.length = n := by have := h1.1; omega
 refine ⟨_, hown', fun j hj => ?_⟩
 by_cases hjn : j < n
 ·obtain ⟨x, hx, a, c, B', e, ho⟩ := h2 j hjn
  refine ⟨x, by rw [List.getElem?_append_left (by omega)]; exact hx, a, c, B', e, ?_⟩
  have ho' : (w2.alloc (.cells #[.slice a2 (ls n).length c2] t)).ownsRow B' 73 2 (.slice a (ls j).length c) (ls j).length (cellsE (ls j)) := (own_below ho hb).alloc _
  exact ho'.kept hg (own_types ho' hv2 (by decide))
 ·obtain rfl : j = n := by omega
  refine ⟨.slice a2 (ls j).length c2, by rw [List.getElem?_append_right (by omega), hl]; simp, a2, c2, B2, rfl, ?_⟩
  have ho' : (w2.alloc (.cells #[.slice a2 (ls j).length c2] t)).ownsRow B2 73 2 (.slice a2 (ls j).length c2) (ls j).length (cellsE (ls j)) := hown2.alloc _
  exact ho'.kept hg (own_types ho' hv2 (by decide))
theorem elemE : Tryz.prog.elem 43 = 73 := by kernel_rfl
theorem underE : Tryz.prog.underlying 43 = some (.slice (Tryz.prog.elem 43)) := by rw [elemE]; exact Tryz.underlying43
theorem sizeElemE (w : World) : (sizeOf (Tryz.prog.elem 43)).run Tryz.prog w = .ok 2 w := by kernel_rfl
theorem partE_mid (ao : Option Addr) (n c i k : Nat) (l : List Ent) (w : World) (hs : SlAt Ent.cells 2 w ao l) (hl : l.length = n) (hnc : n ≤ c) (hc : (c : Int) ≤ 9223372036854775807) (hik : i ≤ k) (hkn : k ≤ n) (hno : ao = none → c = 0) :
  ∃ A, (∀ w, (Instr.slice 43 (.slice ao n c) (some (.int .i64 (i : Int))) (some (.int .i64 (k : Int))) none).run Tryz.prog w = .ok (.slice A (k - i) (c - i)) w) ∧ SlE w (.slice A (k - i) (c - i)) ((l.drop i).take (k - i)) := by
 have hlen : ((l.drop i).take (k - i)).length = k - i := by rw [List.length_take, List.length_drop]; omega
 refine ⟨if c = i then ao else ao.map (·.add (i * 2)), fun w => ?_, ?_⟩
 ·rw [run_slice_lh w 43 ao n c underE .i64 .i64 i k (by omega) (by omega) (by omega)]
  rw [sizeElemE]; rfl
 ·refine ⟨_, c - i, by rw [hlen], ?_, by rw [hlen]; omega, by omega, fun e => ?_⟩
  ·by_cases h0 : i < n
   ·rw [if_neg (by omega)]
    obtain ⟨b, off, rfl, hb, hcc⟩ := hs.at (by omega)
    rw [show (some (⟨b, off, none⟩ : Addr)).map (·.add (i * 2)) = some ⟨b, off + i * 2, none⟩ by simp [Addr.add]]
    exact (hs.drop i b off rfl).cut _
   ·exact Or.inl (List.eq_nil_of_length_eq_zero (by omega))
  ·by_cases h0 : c = i
   ·omega
   ·rw [if_neg h0] at e
    cases ao with
    | none => have := hno rfl; omega
    | some a => simp at e
theorem cell_one_new (w : World) (x : Value) (t : TypeId) : ∀ j v, [x][j]? = some v → (w.alloc (.cells #[x] t)).cell? ((⟨w.heap.size, 0, none⟩ : Addr).add j) = some v := by
 intro j v hj
 match j, hj with
 | 0, hj => simp at hj; subst hj; simp [Addr.add]
theorem infoL : (Tryz.prog.info? 99).map (fun i => (i.zero, i.size, i.bytes)) = some (some (.agg #[.slice none 0 0]), 1, 24) := by kernel_rfl
theorem parts_any (v : Value) (l : List Ent) (most : Int) (w : World) (hv : BoxE w v l) (hl : l.length ≤ 100000) (hm : most ≤ 9223372036854775807) :
  Calls Tryz.prog 97 #[v, .int .i64 most] w fun e w' => (∃ v', e = .returned v' ∧ PartsAt w.heap.size v' (partOf l (partsN l.length (tmax most 1).toNat)) (partsN l.length (tmax most 1).toNat) w') ∧ Below w.heap.size w w' := by
 have hmax := fun ts t a b w => run_tmax (P := Tryz.prog) ts t a b w
 obtain ⟨i0, hi, hz0, hz1, hzb⟩ := info_parts infoL
 have h1 : 1 ≤ tmax most 1 := by unfold tmax; split <;> omega
 have h2 : tmax most 1 ≤ 9223372036854775807 := by unfold tmax; split <;> omega
 have hn := partsN_is l.length hl (tmax most 1) h1 h2
 simp only [IntWalk.i64_left] at hn
 obtain ⟨m, hmd⟩ : ∃ m, tmax most 1 = m := ⟨_, rfl⟩
 rw [hmd] at hn h1 h2 ⊢
 have hpos := partsN_pos l.length m.toNat
 have hle := partsN_le l.length m.toNat
 generalize partsN l.length m.toNat = n at *
 obtain ⟨s, rfl, hs⟩ := hv
 have HS := Lib.hid hs
 obtain ⟨ao, c, rfl, hs0, hc1, hc2, hcn⟩ := hs
 have hn0 : ¬ (n : Int) = 0 := by omega
 have hm0 : ¬ m = 0 := by omega
 clear hs0 hcn h1 h2
 go_enter Tryz.func97, Tryz.ntmps97
 go_wp2_with fail
 go_quiet (fail)
 go_wp2_with fail
 have hqn := Nat.div_le_self l.length n
 have hrn := Nat.mod_lt l.length hpos
 have hq : wrap64 ((l.length : Int) / (n : Int)) = ((l.length / n : Nat) : Int) := by rw [← Int.natCast_ediv]; generalize l.length / n = q at *; exact IntWalk.wrap64_in _ (by omega)
 have hr : (l.length : Int) % (n : Int) = ((l.length % n : Nat) : Int) := by rw [Int.natCast_emod]
 rw [hq, hr]
 have hat : ∀ k, k < n → partAt l.length n (k + 1) = partAt l.length n k + l.length / n + (if k < l.length % n then 1 else 0) ∧ partAt l.length n (k + 1) ≤ l.length := fun k hk => ⟨partAt_succ _ _ _, partAt_le _ _ _ hpos (by omega)⟩
 have HAT := Lib.hid hat
 have hpl := Lib.hid (fun k (hk : k < n) => partOf_len l n k hpos hk)
 clear hat hq hr hmax hn
 have hW : Below (w.heap.size + 1) (w.alloc (.cells #[.slice ao l.length c] 99)) ((w.alloc (.cells #[.slice ao l.length c] 99)).drewN nq) := below_drewN (Below.refl _ _) nq
 generalize hq : l.length / n = q at *
 generalize hr : l.length % n = r at *
 go_loopw [34, 8, 9] (fun i v s wr => ∃ k : Nat, i = .int .i64 k ∧ k ≤ n ∧ s = .int .i64 (partAt l.length n k : Nat) ∧ PartsAt (w.heap.size + 1) v (partOf l n) k wr ∧ Below (w.heap.size + 1) (w.alloc (.cells #[.slice ao l.length c] 99)) wr) (fun i _ _ _ => n - (intOf i).toNat)
 case atStart => exact ⟨0, rfl, Nat.zero_le _, by rw [partAt_zero]; rfl, ⟨[], World.ownsRow_nil _ _ _ _, fun j hj => absurd hj (Nat.not_lt_zero j)⟩, hW⟩
 case round =>
  obtain ⟨k, rfl, hk, rfl, hP, hB⟩ := hrel
  have hk0 : (0 : Int) ≤ (k : Int) := Int.natCast_nonneg _
  have p0 : wr.cell? ⟨w.heap.size, 0, none⟩ = some (.slice ao l.length c) := (cell_below hB (by omega) 0).trans (by simp)
  by_cases hkn : k < n
  ·have hk1 : (k : Int) < (n : Int) := by omega
   obtain ⟨e1, e2⟩ := HAT.out k hkn
   obtain ⟨vs, hv1, hv2⟩ := hP
   have HV := Lib.hid hv2
   have hbz : Below w.heap.size w wr := ((Below.refl w.heap.size w).alloc (Nat.le_refl _) _).trans (hB.mono (by omega))
   have hSr := Lib.hid (HS.out.kept hbz (Nat.le_refl _))
   obtain ⟨ao', c', e', hs0, -, -, hcn⟩ := hSr.out
   simp only [Value.slice.injEq] at e'
   obtain ⟨rfl, -, rfl⟩ := e'
   obtain ⟨A, hA1, hA2⟩ := partE_mid ao l.length c (partAt l.length n k) (partAt l.length n (k + 1)) l wr hs0 rfl hc1 hc2 (by omega) e2 hcn
   have hpl' := hpl.out k hkn
   have hdef : (l.drop (partAt l.length n k)).take (partAt l.length n (k + 1) - partAt l.length n k) = partOf l n k := by rw [partOf, List.drop_take]
   rw [hdef] at hA2
   have hAl : (partOf l n k).length ≤ 1000000 := by rw [hpl']; split <;> omega
   obtain ⟨d, hd⟩ : ∃ d, partAt l.length n (k + 1) - partAt l.length n k = d := ⟨_, rfl⟩
   rw [hd] at hA1 hA2
   clear hdef hpl' hd
   by_cases hkr : k < r
   ·rw [if_pos hkr] at e1
    have hkr1 : (k : Int) < (r : Int) := by omega
    have hto : ((partAt l.length n (k + 1) : Nat) : Int) = (partAt l.length n k : Nat) + (q : Int) + 1 := by omega
    rw [hto] at hA1
    have hto' := Lib.hid hto
    have hw1 : IntKind.i64.wrap (((partAt l.length n k : Nat) : Int) + (q : Int)) = ((partAt l.length n k : Nat) : Int) + (q : Int) := IntWalk.i64_in _ (by omega)
    have hw2 : IntKind.i64.wrap (((partAt l.length n k : Nat) : Int) + (q : Int) + 1) = ((partAt l.length n k : Nat) : Int) + (q : Int) + 1 := IntWalk.i64_in _ (by omega)
    clear hto e1
    obtain ⟨a0, c0, e0⟩ := own_form hv1
    subst e0
    have hAt := Lib.hid hA2
    clear hA2 hs0 hv2
    go_wp2_with (first
     | (go_at_call 127; go_must (refine (cloneE _ (partOf l n k) _ hAt.out hAl).mono ?_; rintro e w2 ⟨⟨v2, rfl, hown2⟩, hB2⟩; obtain ⟨a2, c2, e2⟩ := own_form hown2; subst e2))
     | (at_builtin; go_must (refine wpList_append_own_at _ rfl _ _ 190 rfl (w.heap.size + 1) 99 i0 (.agg #[.slice none 0 0]) 1 24 Tryz.underlying190 hi hz0 hz1 hzb rfl (by decide) _ k vs rfl ((own_below hv1 hB2).alloc _) ⟨w2.heap.size, 0, none⟩ 1 1 [.slice a2 (partOf l n k).length c2] rfl rfl (cell_one_new _ _ _) (by simp [Value.oneCell']) (by unfold maxLen; omega) (by omega) (by have := hB2.size; have := hB.size; simp at this ⊢; omega) ?_; intro v' w3 hown' hgrow hnil hat)))
    have hP3 := parts_put hv1 HV.out hB2 rfl hown2 hown' hgrow
    have hB3 := below_grown ((hB.trans (hB2.mono (by have := hB.size; simp at this; omega))).alloc (by have := hB2.size; have := hB.size; simp at this ⊢; omega) (.cells #[.slice a2 (partOf l n k).length c2] 99)) hgrow (fun j e => ((own_below hv1 hB2).lt j e).1) (by have := hB2.size; have := hB.size; simp at this ⊢; omega)
    go_roundw
    (case rel => exact (⟨k + 1, by go_num, by omega, by rw [hto'.out], hP3, hB3⟩))
    (case measure => first | (simp [intOf]; done) | (simp [intOf]; omega))
   ·rw [if_neg hkr] at e1
    have hkr1 : ¬ (k : Int) < (r : Int) := by omega
    have hto : ((partAt l.length n (k + 1) : Nat) : Int) = (partAt l.length n k : Nat) + (q : Int) := by omega
    rw [hto] at hA1
    have hto' := Lib.hid hto
    have hw1 : IntKind.i64.wrap (((partAt l.length n k : Nat) : Int) + (q : Int)) = ((partAt l.length n k : Nat) : Int) + (q : Int) := IntWalk.i64_in _ (by omega)
    clear hto e1
    obtain ⟨a0, c0, e0⟩ := own_form hv1
    subst e0
    have hAt := Lib.hid hA2
    clear hA2 hs0 hv2
    go_wp2_with (first
     | (go_at_call 127; go_must (refine (cloneE _ (partOf l n k) _ hAt.out hAl).mono ?_; rintro e w2 ⟨⟨v2, rfl, hown2⟩, hB2⟩; obtain ⟨a2, c2, e2⟩ := own_form hown2; subst e2))
     | (at_builtin; go_must (refine wpList_append_own_at _ rfl _ _ 190 rfl (w.heap.size + 1) 99 i0 (.agg #[.slice none 0 0]) 1 24 Tryz.underlying190 hi hz0 hz1 hzb rfl (by decide) _ k vs rfl ((own_below hv1 hB2).alloc _) ⟨w2.heap.size, 0, none⟩ 1 1 [.slice a2 (partOf l n k).length c2] rfl rfl (cell_one_new _ _ _) (by simp [Value.oneCell']) (by unfold maxLen; omega) (by omega) (by have := hB2.size; have := hB.size; simp at this ⊢; omega) ?_; intro v' w3 hown' hgrow hnil hat)))
    have hP3 := parts_put hv1 HV.out hB2 rfl hown2 hown' hgrow
    have hB3 := below_grown ((hB.trans (hB2.mono (by have := hB.size; simp at this; omega))).alloc (by have := hB2.size; have := hB.size; simp at this ⊢; omega) (.cells #[.slice a2 (partOf l n k).length c2] 99)) hgrow (fun j e => ((own_below hv1 hB2).lt j e).1) (by have := hB2.size; have := hB.size; simp at this ⊢; omega)
    go_roundw
    (case rel => exact (⟨k + 1, by go_num, by omega, by rw [hto'.out], hP3, hB3⟩))
    (case measure => first | (simp [intOf]; done) | (simp [intOf]; omega))
  ·obtain rfl : k = n := by omega
   obtain ⟨vs, hv1, hv2⟩ := hP
   obtain ⟨a3, c3, e3⟩ := own_form hv1
   subst e3
   go_wp2_with fail
   go_ret
   exact ⟨⟨_, rfl, vs, own_base hv1 (by omega), hv2⟩, ((Below.refl w.heap.size w).alloc (Nat.le_refl _) _).trans (hB.mono (by omega))⟩
open Go.RowKit
def valV : Option (List UInt8) → Value
 | none => .tuple #[.string (S []), .bool false]
 | some v => .tuple #[.string (S v), .bool true]
theorem SlAt.cells2 {w : World} {ao : Option Addr} {l : List Ent} (hs : SlAt Ent.cells 2 w ao l) (i : Nat) (hi : i < l.length) :
  ∃ b off, ao = some ⟨b, off, none⟩ ∧ b < w.heap.size ∧ w.cell? ⟨b, off + i * 2, none⟩ = some (.string (S l[i].key)) ∧ w.cell? ⟨b, off + i * 2 + 1, none⟩ = some (.string (S l[i].val)) := by
 obtain ⟨b, off, rfl, hb, hc⟩ := hs.at (by omega)
 obtain ⟨h0, h1⟩ := entCells hc i hi
 exact ⟨b, off, rfl, hb, h0, h1⟩
theorem getE_none (v : Value) (l : List Ent) (k : List UInt8) (w : World) (hv : BoxE w v l) (hl : l.length ≤ 100000) (hr : Rising Ent.key l) (hno : hasKey Ent.key l k = false) :
  Calls Tryz.prog 51 #[v, .string (S k)] w fun e w' => e = .returned (valV none) ∧ Below w.heap.size w w' := by
 have hfind := fun w hv => findE v l k w hv (by omega) hr
 rw [hno] at hfind
 obtain ⟨s, rfl, hs⟩ := hv
 have HF := Lib.hid hfind
 have HS := Lib.hid hs
 obtain ⟨ao, c, rfl, hs0, hc1, hc2, hn⟩ := hs
 clear hfind hn hs0 hr
 go_enter Tryz.func51, Tryz.ntmps51
 go_wp2_with fail
 refine (thread (HF.out _ ⟨_, rfl, HS.out.kept (by go_grown) (Nat.le_refl _)⟩) w.heap.size w (by go_grown) (by go_grown)).mono ?_
 rintro e w1 ⟨rfl, hB1, -, -, -, -⟩
 go_wp2_with fail
 exact bodyPost_ret (v := valV none) (by simp [results, Tryz.results51, go_sem, valV]; rfl) rfl ⟨rfl, hB1⟩
theorem getE_some (v : Value) (l : List Ent) (i : Nat) (hi : i < l.length) (u : Ent) (hu : l[i] = u) (k : List UInt8) (w : World) (hv : BoxE w v l) (hl : l.length ≤ 100000) (hr : Rising Ent.key l) (hb : below Ent.key l k = i) (hno : hasKey Ent.key l k = true) :
  Calls Tryz.prog 51 #[v, .string (S k)] w fun e w' => e = .returned (valV (some u.val)) ∧ Below w.heap.size w w' := by
 have hfind := fun w hv => findE v l k w hv (by omega) hr
 rw [hno, hb] at hfind
 obtain ⟨s, rfl, hs⟩ := hv
 have HF := Lib.hid hfind
 have HS := Lib.hid hs
 obtain ⟨ao, c, rfl, hs0, hc1, hc2, hn⟩ := hs
 clear hfind hn hr
 have hcl := SlAt.cells2 hs0 i hi
 obtain ⟨b, off, rfl, hbl, t0, t1⟩ := hcl
 clear hs0
 rw [hu] at t0 t1
 go_enter Tryz.func51, Tryz.ntmps51
 go_wp2_with fail
 refine (thread (HF.out _ ⟨_, rfl, HS.out.kept (by go_grown) (Nat.le_refl _)⟩) w.heap.size w (by go_grown) (by go_grown)).mono ?_
 rintro e w1 ⟨rfl, hB1, hk1, hf1, hs1, hz1⟩
 have p0 := (hk1 w.heap.size 0 (by first | (simp; done) | (simp; omega))).trans (by simp [go_sem]; rfl)
 have q0 := (cell_below hB1 hbl _).trans t0
 have q1 := (cell_below hB1 hbl _).trans t1
 clear hk1 hf1 hs1
 have hi0 : (0 : Int) ≤ (i : Int) := by omega
 have hi1 : (i : Int) < (l.length : Int) := by omega
 clear hb hno t0 t1 hu
 go_wp2_with fail
 exact bodyPost_ret (v := valV (some u.val)) (by simp [results, Tryz.results51, go_sem, valV]) rfl ⟨rfl, hB1⟩
theorem getE_any (v : Value) (l : List Ent) (k : List UInt8) (w : World) (hv : BoxE w v l) (hl : l.length ≤ 100000) (hr : Rising Ent.key l) :
  Calls Tryz.prog 51 #[v, .string (S k)] w fun e w' => e = .returned (valV (lookE l k)) ∧ Below w.heap.size w w' := by
 cases hh : hasKey Ent.key l k with
 | false => rw [lookE_none hh]; exact getE_none v l k w hv hl hr hh
 | true =>
  obtain ⟨hlt, hkey⟩ := (hr.found k).1 hh
  have e : lookE l k = some (l[below Ent.key l k]'hlt).val := by
   have := lookE_at hr _ hlt
   rwa [hkey] at this
  rw [e]
  exact getE_some v l _ hlt _ rfl k w hv hl hr rfl hh
open Go.RowKit
attribute [local go_sem ↓] Go.wp_at_zero Go.wp_at_succ
theorem leafOn_any (v : Value) (l : List Ent) (s : Value) (us : List Upd) (w : World) (hv : BoxE w v l) (hl : l.length ≤ 10000) (hr : Rising Ent.key l) (hf : FineE l) (hs : SlU w s us) (hu : ∀ u ∈ us, u.Wf) (hul : us.length ≤ 10000) :
  Calls Tryz.prog 66 #[v, s] w fun e w' => (∃ a c, e = .returned (.agg #[.slice a (onAll l us).length c]) ∧ BoxE w' (.agg #[.slice a (onAll l us).length c]) (onAll l us)) ∧ Below w.heap.size w w' := by
 obtain ⟨s0, rfl, hs0⟩ := hv
 have HL := Lib.hid (fun w (h : SlE w s0 l) => listE (.agg #[s0]) l w ⟨s0, rfl, h⟩ (by omega))
 have HS0 := Lib.hid hs0
 have HS := Lib.hid hs
 obtain ⟨ua, uc, rfl, -, hc1, hc2, hcn⟩ := hs
 obtain ⟨sa, sc, rfl, -, hd1, hd2, hdn⟩ := hs0
 clear hcn hdn
 go_enter Tryz.func66, Tryz.ntmps66
 go_wp2_with fail
 refine (thread (HL.out _ (HS0.out.kept (by go_grown) (Nat.le_refl _))) w.heap.size w (by go_grown) (by go_grown)).mono ?_
 rintro e w1 ⟨⟨v', rfl, hown⟩, hB1, hk1, hf1, hs1, hz1⟩
 obtain ⟨a1, c1, e1⟩ := own_form hown
 subst e1
 have hs1' : w.heap.size + 1 < w1.heap.size := by simp at hs1; omega
 have hown := own_base (B' := w.heap.size + 2) hown (by simp)
 have hL0 : LeafAt (w.heap.size + 2) w1.heap.size l (w1.alloc (.cells #[.slice a1 l.length c1] 99)) := ⟨⟨a1, c1, by simp, hown.alloc _, fun e => by have := (hown.lt _ e).2; omega⟩, by simp, by simp, by omega⟩
 have r5 : w1.cell? ⟨w.heap.size + 1, 0, none⟩ = some (.slice none 0 0) := (hk1 (w.heap.size + 1) 0 (by simp)).trans (by simp)
 have r6 : w1.frozen? ⟨w.heap.size + 1, 0, none⟩ = false := (hf1 (w.heap.size + 1) 0 (by simp)).trans (by simp)
 have HB1 := Lib.hid hB1
 clear hk1 hf1 hs1 hown hB1
 go_wp2_with fail
 go_loopw [13] (fun i wr => ∃ k : Nat, i = .int .i64 k ∧ k ≤ us.length ∧ LeafAt (w.heap.size + 2) w1.heap.size (onAll l (us.take k)) wr ∧ Below (w.heap.size + 2) w1 wr) (fun i _ => us.length - (intOf i).toNat)
 case atStart => exact ⟨0, rfl, Nat.zero_le _, hL0, by go_grown⟩
 case round =>
  obtain ⟨k, rfl, hk, hL, hB⟩ := hrel
  have hk0 : (0 : Int) ≤ (k : Int) := Int.natCast_nonneg _
  obtain ⟨o1, o2, o3⟩ := onAll_ok l hr hf (us.take k)
  have hlen := Lib.hid (show (onAll l (us.take k)).length ≤ 100000 by rw [List.length_take] at o3; omega)
  clear o3
  by_cases hku : k < us.length
  ·have hk1 : (k : Int) < (us.length : Int) := by omega
   obtain ⟨b, off, rfl, hb, t0, t1, t2, t3⟩ := SlU.cells4 (HS.out.kept (HB1.out.trans (hB.mono (by omega))) (Nat.le_refl _)) k hku
   have hsn := Lib.hid (List.take_succ_eq_append_getElem hku)
   obtain ⟨hw1, hw2⟩ := hu _ (List.getElem_mem hku)
   generalize us[k] = u at *
   have hon := Lib.hid (leaf_on (w.heap.size + 2) w1.heap.size _ u.kind u.key u.val u.delta (wr.alloc (.cells #[.int .u8 u.kind, .string (S u.key), .string (S u.val), .int .u64 u.delta] 39)) (hL.on (by go_grown)) hlen.out o1 (fun e he => by have := (o2 e he).2.2; omega) hw1 hw2)
   have hz := hL.le
   clear hL
   go_wp2_with fail
   refine (hon.out).mono ?_
   rintro e w2 ⟨rfl, hL2, hB2⟩
   have hB3 := hB.trans ((Below.refl _ _).alloc hz _ |>.trans hB2)
   go_wp2_with fail
   go_roundw
   (case rel => exact (⟨k + 1, by go_num, by omega, by rw [hsn.out, onAll_snoc]; exact hL2, hB3⟩))
   (case measure => first | (simp [intOf]; done) | (simp [intOf]; omega))
  ·obtain rfl : k = us.length := by omega
   rw [List.take_length] at hL
   obtain ⟨⟨a, c, h1, h2, h3⟩, h4, h5, h6⟩ := hL
   have r7 := (cell_below hB (show w.heap.size + 1 < w.heap.size + 2 by omega) 0).trans r5
   have r8 : wr.frozen? ⟨w.heap.size + 1, 0, none⟩ = false := (World.frozen?_of_block (hB.block (w.heap.size + 1) (by omega))).trans r6
   have hne : (Value.slice a (onAll l us).length c).ownBlock ≠ some (w.heap.size + 1) := fun e => by have := (h2.lt _ e).1; omega
   have hbox := fun u => BoxE.of_own (ownsRow_setCell_other (a := ⟨w.heap.size + 1, 0, none⟩) h2 hne u)
   have hlow := (HB1.out.trans (hB.mono (by omega))).setCell (p := ⟨w.heap.size + 1, 0, none⟩) (by show w.heap.size ≤ w.heap.size + 1; omega) (.slice a (onAll l us).length c)
   have Hbox := Lib.hid hbox
   have Hlow := Lib.hid hlow
   clear hbox hlow h2 h3 h4 hlen o1 o2
   go_wp2_with fail
   exact bodyPost_ret (v := .agg #[.slice a (onAll l us).length c]) (by simp [results, Tryz.results66, go_sem, r7]) rfl ⟨⟨a, c, rfl, Hbox.out _⟩, Hlow.out⟩
open Go.RowKit
attribute [local go_sem ↓] Go.wp_at_zero Go.wp_at_succ
def okB (e : Ent) : Bool := !e.key.isEmpty && (decide (e.key.length ≤ 16) && decide (e.val.length ≤ 32))
theorem okB_iff (e : Ent) : okB e = true ↔ 1 ≤ e.key.length ∧ e.key.length ≤ 16 ∧ e.val.length ≤ 32 := by
 unfold okB
 cases h : e.key <;> simp
theorem rightOne (k v : List UInt8) (w : World) :
  Calls Tryz.prog 150 #[.agg #[.string (S k), .string (S v)]] w fun e w' => e = .returned (.bool (okB ⟨k, v⟩)) ∧ Below w.heap.size w w' := by
 by_cases h0 : k = []
 ·have he : k.isEmpty = true := by rw [h0]; rfl
  have H := Lib.hid (show okB ⟨k, v⟩ = false by simp [okB, he])
  go_enter Tryz.func150, Tryz.ntmps150
  go_wp2
  all_goals (go_ret; exact ⟨ret_bool (by rw [H.out]), by go_grown⟩)
 ·have he : k.isEmpty = false := by cases hk : k <;> simp [hk] at h0 ⊢
  by_cases h1 : k.length ≤ 16
  ·have H := Lib.hid (show okB ⟨k, v⟩ = decide (v.length ≤ 32) by simp [okB, he, h1])
   go_enter Tryz.func150, Tryz.ntmps150
   go_wp2
   all_goals (go_ret; exact ⟨ret_bool (by rw [H.out, Bool.eq_iff_iff]; simp; omega), by go_grown⟩)
  ·have H := Lib.hid (show okB ⟨k, v⟩ = false by simp [okB, h1])
   go_enter Tryz.func150, Tryz.ntmps150
   go_wp2
   all_goals (go_ret; exact ⟨ret_bool (by rw [H.out]), by go_grown⟩)
def RightE (l : List Ent) : Prop := FineE l ∧ Rising Ent.key l
theorem right_nil : RightE [] := ⟨fun e he => by simp at he, List.Pairwise.nil⟩
theorem right_not {l : List Ent} {j : Nat} (h : ¬ RightE (l.take j)) : ¬ RightE l := fun hr =>
 h ⟨fun e he => hr.1 e (List.mem_of_mem_take he), hr.2.sublist (List.take_sublist j l)⟩
theorem right_step (l : List Ent) (j : Nat) (hj : j < l.length) (h : RightE (l.take j)) :
  RightE (l.take (j + 1)) ↔ okB l[j] = true ∧ (∀ h0 : 0 < j, bl (l[j - 1]'(by omega)).key l[j].key = true) := by
 rw [List.take_succ_eq_append_getElem hj, okB_iff]
 constructor
 ·rintro ⟨h1, h2⟩
  refine ⟨h1 _ (List.mem_append_right _ (List.mem_singleton.2 rfl)), fun h0 => ?_⟩
  have h3 := (List.pairwise_append.1 h2).2.2
  refine h3 (l[j - 1]'(by omega)) ?_ l[j] (List.mem_singleton.2 rfl)
  rw [List.mem_take_iff_getElem]
  exact ⟨j - 1, by omega, rfl⟩
 ·rintro ⟨h1, h2⟩
  refine ⟨fun e he => ?_, List.pairwise_append.2 ⟨h.2, by simp, fun a ha b hb => ?_⟩⟩
  ·rcases List.mem_append.1 he with he | he
   ·exact h.1 e he
   ·rw [List.mem_singleton] at he; rw [he]; exact h1
  ·rw [List.mem_singleton] at hb
   subst hb
   obtain ⟨i, hi, rfl⟩ := List.mem_take_iff_getElem.1 ha
   have h3 := h2 (by omega)
   by_cases e : i = j - 1
   ·subst e; exact h3
   ·have h4 := Rising.lt h.2 (show i < j - 1 by omega) (by rw [List.length_take]; omega)
    simp only [List.getElem_take] at h4
    exact bl_trans h4 h3
open Go.RowKit
def stepE (s : List UInt8) : Option (Ent × List UInt8) :=
 if (splitL s).2.2 && (splitL (splitL s).2.1).2.2 then some (⟨(splitL s).1, (splitL (splitL s).2.1).1⟩, (splitL (splitL s).2.1).2.1) else none
theorem stepE_len {s r : List UInt8} {e : Ent} (h : stepE s = some (e, r)) : r.length + 1 < s.length + 1 := by
 unfold stepE at h
 split at h
 ·rename_i hc
  simp only [Bool.and_eq_true] at hc
  simp only [Option.some.injEq, Prod.mk.injEq] at h
  have h1 := (splitL_len s).2 hc.1
  have h2 := (splitL_len (splitL s).2.1).1
  rw [h.2] at h2
  omega
 ·simp at h
def rawN : Nat → List UInt8 → Option (List Ent)
 | 0, _ => some []
 | n + 1, s => if s = [] then some [] else match stepE s with
  | none => none
  | some (e, r) => (rawN n r).map fun l => e :: l
theorem rawN_same : ∀ (n m : Nat) (s : List UInt8), s.length ≤ n → s.length ≤ m → rawN n s = rawN m s
 | 0, 0, _, _, _ => rfl
 | 0, m + 1, s, h, _ => by
  have : s = [] := List.eq_nil_of_length_eq_zero (by omega)
  simp [rawN, this]
 | n + 1, 0, s, _, h => by
  have : s = [] := List.eq_nil_of_length_eq_zero (by omega)
  simp [rawN, this]
 | n + 1, m + 1, s, h, k => by
  unfold rawN
  by_cases h0 : s = []
  ·simp [h0]
  ·rw [if_neg h0, if_neg h0]
   cases hs : stepE s with
   | none => rfl
   | some p =>
    obtain ⟨e, r⟩ := p
    have := stepE_len hs
    simp only
    rw [rawN_same n m r (by omega) (by omega)]
def rawE (s : List UInt8) : Option (List Ent) := rawN s.length s
theorem rawE_nil : rawE [] = some [] := rfl
theorem rawE_none {s : List UInt8} (h0 : s ≠ []) (h : stepE s = none) : rawE s = none := by
 unfold rawE
 cases hl : s.length with
 | zero => exact absurd (List.eq_nil_of_length_eq_zero hl) h0
 | succ n => simp [rawN, h0, h]
theorem rawE_some {s r : List UInt8} {e : Ent} (h0 : s ≠ []) (h : stepE s = some (e, r)) : rawE s = (rawE r).map fun l => e :: l := by
 have hlt := stepE_len h
 unfold rawE
 cases hl : s.length with
 | zero => exact absurd (List.eq_nil_of_length_eq_zero hl) h0
 | succ n =>
  conv => lhs; unfold rawN
  rw [if_neg h0, h]
  simp only
  rw [rawN_same n r.length r (by omega) (Nat.le_refl _)]
theorem raw_more {s0 s r : List UInt8} {acc : List Ent} {e : Ent} (h : rawE s0 = (rawE s).map fun l => acc ++ l) (h0 : s ≠ []) (k : stepE s = some (e, r)) : rawE s0 = (rawE r).map fun l => (acc ++ [e]) ++ l := by
 rw [h, rawE_some h0 k]
 cases rawE r <;> simp
theorem raw_stop {s0 s : List UInt8} {acc : List Ent} (h : rawE s0 = (rawE s).map fun l => acc ++ l) (h0 : s ≠ []) (k : stepE s = none) : rawE s0 = none := by
 rw [h, rawE_none h0 k]; rfl
theorem raw_end {s0 : List UInt8} {acc : List Ent} (h : rawE s0 = (rawE []).map fun l => acc ++ l) : rawE s0 = some acc := by
 rw [h, rawE_nil]; simp
def rightB (l : List Ent) : Bool := l.all okB && decide (l.Pairwise fun a b => bl a.key b.key = true)
theorem rightB_iff (l : List Ent) : rightB l = true ↔ RightE l := by
 unfold rightB RightE FineE Rising
 rw [Bool.and_eq_true, List.all_eq_true, decide_eq_true_iff]
 constructor
 ·rintro ⟨h1, h2⟩; exact ⟨fun e he => (okB_iff e).1 (h1 e he), h2⟩
 ·rintro ⟨h1, h2⟩; exact ⟨fun e he => (okB_iff e).2 (h1 e he), h2⟩
def parseE (s : List UInt8) : List Ent × Nat :=
 match rawE s with
 | none => ([], 4)
 | some l => if rightB l then (l, 0) else ([], 4)
theorem parseE_none {s : List UInt8} (h : rawE s = none) : parseE s = ([], 4) := by simp [parseE, h]
theorem parseE_bad {s : List UInt8} {l : List Ent} (h : rawE s = some l) (k : rightB l = false) : parseE s = ([], 4) := by simp [parseE, h, k]
theorem parseE_ok {s : List UInt8} {l : List Ent} (h : rawE s = some l) (k : rightB l = true) : parseE s = (l, 0) := by simp [parseE, h, k]
open Go.RowKit
attribute [local go_sem ↓] Go.wp_at_zero Go.wp_at_succ
theorem refRight_any (ao : Option Addr) (c : Nat) (l : List Ent) (bo : Bool) (hbo : bo = true ↔ RightE l) (w : World) (hl : l.length ≤ 1000000) (hs : SlAt Ent.cells 2 w ao l) :
  Calls Tryz.prog 61 #[.slice ao l.length c] w fun e w' => e = .returned (.bool bo) ∧ Below w.heap.size w w' := by
 have HBO := Lib.hid hbo
 have HS := Lib.hid hs
 clear hbo hs
 go_enter Tryz.func61, Tryz.ntmps61
 go_wp2_with fail
 go_loopw [3] (fun i wr => ∃ j : Nat, i = .int .i64 j ∧ j ≤ l.length ∧ Hid (RightE (l.take j)) ∧ Below w.heap.size w wr) (fun i _ => l.length - (intOf i).toNat)
 case atStart => exact ⟨0, rfl, Nat.zero_le _, Lib.hid right_nil, Below.refl _ _⟩
 case round =>
  obtain ⟨j, rfl, hj, hR, hB⟩ := hrel
  have hj0 : (0 : Int) ≤ (j : Int) := Int.natCast_nonneg _
  by_cases hjl : j < l.length
  ·have hj1 : (j : Int) < (l.length : Int) := by omega
   have hst := Lib.hid (right_step l j hjl hR.out)
   have hno : Hid (¬ RightE (l.take (j + 1)) → bo = false) := Lib.hid fun h => by
    cases hbb : bo with
    | false => rfl
    | true => exact absurd (HBO.out.1 hbb) (right_not h)
   obtain ⟨b, off, rfl, hb, t0, t1⟩ := SlAt.cells2 HS.out j hjl
   have q0 := (cell_below hB hb _).trans t0
   have q1 := (cell_below hB hb _).trans t1
   clear t0 t1
   cases hok : okB l[j] with
   | false =>
    have hbf := Lib.hid (hno.out (fun h => by have := (hst.out.1 h).1; rw [hok] at this; exact absurd this (by simp)))
    have hnk : ¬ (1 ≤ l[j].key.length ∧ l[j].key.length ≤ 16 ∧ l[j].val.length ≤ 32) := fun h => by have := (okB_iff l[j]).2 h; rw [hok] at this; exact absurd this (by simp)
    clear hst hno hok
    generalize l[j] = u at *
    by_cases h1 : u.key.length < 1
    ·clear hnk
     go_wp2_with fail
     exact bodyPost_ret (v := .bool false) (by simp [results, Tryz.results61, go_sem]) rfl ⟨by rw [hbf.out], hB⟩
    ·by_cases h2 : 16 < u.key.length
     ·clear hnk
      go_wp2_with fail
      exact bodyPost_ret (v := .bool false) (by simp [results, Tryz.results61, go_sem]) rfl ⟨by rw [hbf.out], hB⟩
     ·have h3 : 32 < u.val.length := by omega
      clear hnk
      go_wp2_with fail
      exact bodyPost_ret (v := .bool false) (by simp [results, Tryz.results61, go_sem]) rfl ⟨by rw [hbf.out], hB⟩
   | true =>
    obtain ⟨k1, k2, k3⟩ := (okB_iff l[j]).1 hok
    have g1 : ¬ l[j].key.length < 1 := by omega
    have g2 : ¬ 16 < l[j].key.length := by omega
    have g3 : ¬ 32 < l[j].val.length := by omega
    rcases j with _ | q
    ·have hR2 := Lib.hid (hst.out.2 ⟨hok, fun h => absurd h (by omega)⟩)
     clear hst hno hok
     generalize l[0] = u at *
     rw [show ((0 : Nat) : Int) = 0 from rfl] at hj1
     rw [Nat.zero_mul, Nat.add_zero] at q0 q1
     have hd : decide ((0 : Int) < 0) = false := rfl
     go_wp2_with fail
     go_quiet (fail)
     go_wp2_with fail
     exact ⟨⟨1, by go_num, by omega, hR2, below_drewN hB _⟩, by simp [intOf]; omega⟩
    ·obtain ⟨b', off', e', hb', t0', t1'⟩ := SlAt.cells2 HS.out q (by omega)
     simp only [Option.some.injEq, Addr.mk.injEq] at e'
     obtain ⟨rfl, rfl, -⟩ := e'
     have q2 := (cell_below hB hb _).trans t0'
     have hq0 : (0 : Int) ≤ (q : Int) := Int.natCast_nonneg _
     have hq1 : (q : Int) < (l.length : Int) := by omega
     have hw1 : IntKind.i64.wrap ((q : Int) + 1 - 1) = (q : Int) := by rw [show (q : Int) + 1 - 1 = (q : Int) by omega]; exact IntWalk.i64_in _ (by omega)
     have hd : decide ((0 : Int) < (q : Int) + 1) = true := by rw [decide_eq_true_iff]; omega
     clear t0' t1'
     cases hlt : bl l[q].key l[q + 1].key with
     | true =>
      have hR2 := Lib.hid (hst.out.2 ⟨hok, fun h => hlt⟩)
      clear hst hno hok
      have hlt' : Op.bytesLess l[q].key l[q + 1].key = true := hlt
      clear hlt
      generalize l[q + 1] = u at *
      generalize l[q] = u' at *
      go_wp2_with fail
      go_quiet (fail)
      go_wp2_with fail
      exact ⟨⟨q + 2, by go_num, by omega, hR2, below_drewN hB _⟩, by simp [intOf]; omega⟩
     | false =>
      have hbf := Lib.hid (hno.out (fun h => by have this : bl l[q].key l[q + 1].key = true := (hst.out.1 h).2 (by omega); rw [hlt] at this; exact absurd this (by simp)))
      clear hst hno hok
      have hlt' : Op.bytesLess l[q].key l[q + 1].key = false := hlt
      clear hlt
      generalize l[q + 1] = u at *
      generalize l[q] = u' at *
      go_wp2_with fail
      go_quiet (fail)
      go_wp2_with fail
      exact bodyPost_ret (v := .bool false) (by simp [results, Tryz.results61, go_sem]) rfl ⟨by rw [hbf.out], below_drewN hB _⟩
  ·obtain rfl : j = l.length := by omega
   have hbt := Lib.hid (HBO.out.2 (by have := hR.out; rwa [List.take_length] at this))
   go_wp2_with fail
   exact bodyPost_ret (v := .bool true) (by simp [results, Tryz.results61, go_sem]) rfl ⟨by rw [hbt.out], hB⟩
open Go.RowKit
attribute [local go_sem ↓] Go.wp_at_zero Go.wp_at_succ
def OfRes (B : Nat) (l : List Ent) : Bool → Ending → World → Prop
 | true, e, w' => ∃ a c, e = .returned (.tuple #[.agg #[.slice a l.length c], .int .i64 0]) ∧ w'.ownsRow B 73 2 (.slice a l.length c) l.length (cellsE l)
 | false, e, _ => e = .returned (.tuple #[.agg #[.slice none 0 0], .int .i64 2])
theorem leafOf_any (ao : Option Addr) (n c : Nat) (l : List Ent) (w : World) (hn : n = l.length) (hl : l.length ≤ 1000000) (hs : SlE w (.slice ao n c) l) :
  Calls Tryz.prog 113 #[.slice ao n c] w fun e w' => OfRes w.heap.size l (rightB l) e w' ∧ Below w.heap.size w w' := by
 subst hn
 have HBO := Lib.hid (rightB_iff l)
 have HS := Lib.hid hs
 generalize rightB l = bo at *
 obtain ⟨ao', c', e', hs0, -⟩ := hs
 simp only [Value.slice.injEq] at e'
 obtain ⟨rfl, -, rfl⟩ := e'
 have HS0 := Lib.hid hs0
 clear hs0
 go_enter Tryz.func113, Tryz.ntmps113
 go_wp2_with fail
 go_loopw [8] (fun i wr => ∃ j : Nat, i = .int .i64 j ∧ j ≤ l.length ∧ Hid (RightE (l.take j)) ∧ wr.cell? ⟨w.heap.size, 0, none⟩ = some (.slice none 0 0) ∧ wr.frozen? ⟨w.heap.size, 0, none⟩ = false ∧ w.heap.size < wr.heap.size ∧ Below w.heap.size w wr) (fun i _ => l.length - (intOf i).toNat)
 case atStart => exact ⟨0, rfl, Nat.zero_le _, Lib.hid right_nil, by simp, by simp, by simp, by go_grown⟩
 case round =>
  obtain ⟨j, rfl, hj, hR, hp, hpf, hsz, hB⟩ := hrel
  have hj0 : (0 : Int) ≤ (j : Int) := Int.natCast_nonneg _
  by_cases hjl : j < l.length
  ·have hj1 : (j : Int) < (l.length : Int) := by omega
   have hst := Lib.hid (right_step l j hjl hR.out)
   have hno : Hid (¬ RightE (l.take (j + 1)) → bo = false) := Lib.hid fun h => by
    cases hbb : bo with
    | false => rfl
    | true => exact absurd (HBO.out.1 hbb) (right_not h)
   obtain ⟨b, off, rfl, hb, t0, t1⟩ := SlAt.cells2 HS0.out j hjl
   have q0 := (cell_below hB hb _).trans t0
   have q1 := (cell_below hB hb _).trans t1
   clear t0 t1
   cases hok : okB l[j] with
   | false =>
    have hbf := Lib.hid (hno.out (fun h => by have := (hst.out.1 h).1; rw [hok] at this; exact absurd this (by simp)))
    have hright := fun W => rightOne l[j].key l[j].val W
    rw [show okB (⟨l[j].key, l[j].val⟩ : Ent) = false from hok] at hright
    have HRT := Lib.hid hright
    clear hst hno hok hright
    generalize l[j] = u at *
    go_wp2_with fail
    refine WQ.region (C := fun w' => w'.cell? ⟨wr.heap.size, 0, none⟩ = some (.string (S u.key)) ∧ w'.cell? ⟨wr.heap.size, 1, none⟩ = some (.string (S u.val)) ∧ Below wr.heap.size wr w') (by kernel_rfl) (by kernel_rfl) (⟨cell_drew (by simp), cell_drew (by simp), by go_grown⟩) ?_
    refine WV (by rfl) (.agg #[.string (S u.key), .string (S u.val)]) (fun w' hw' => ?_) ?_
    ·obtain ⟨x0, x1, x2⟩ := hw'
     go_simp
    try simp only [Act.put, WA, WB, WC]
    refine WV (by rfl) (.bool false) (fun w' hw' => ?_) ?_
    ·obtain ⟨x0, x1, x2⟩ := hw'
     go_simp
     go_at_call 150
     refine (HRT.out _).mono ?_
     rintro e w6 ⟨he, hb6⟩
     exact ⟨he, kept_cell hb6 x0, kept_cell hb6 x1, x2.trans (hb6.mono x2.size)⟩
    try simp only [Act.put, WA, WB, WC]
    refine WV (by rfl) (.bool true) (fun w' hw' => ?_) ?_
    ·obtain ⟨x0, x1, x2⟩ := hw'
     go_simp
    try simp only [Act.put, WA, WB, WC]
    refine WM (by rfl) _ rfl ?_
    try simp only [Act.put, WA, WB, WC]
    refine WS (by rfl) ?_
    try simp only [Act.put, WA, WB, WC]
    refine WS (by rfl) ?_
    try simp only [Act.put, WA, WB, WC]
    refine WS (by rfl) ?_
    try simp only [Act.put, WA, WB, WC]
    refine WS (by rfl) ?_
    try simp only [Act.put, WA, WB, WC]
    refine WS (by rfl) ?_
    try simp only [Act.put, WA, WB, WC]
    refine WS (by rfl) ?_
    try simp only [Act.put, WA, WB, WC]
    refine WS (by rfl) ?_
    try simp only [Act.put, WA, WB, WC]
    refine WS (by rfl) ?_
    try simp only [Act.put, WA, WB, WC]
    refine WS (by rfl) ?_
    try simp only [Act.put, WA, WB, WC]
    refine WS (by rfl) ?_
    try simp only [Act.put, WA, WB, WC]
    refine WS (by rfl) ?_
    try simp only [Act.put, WA, WB, WC]
    refine WS (by rfl) ?_
    try simp only [Act.put, WA, WB, WC]
    refine WS (by rfl) ?_
    try simp only [Act.put, WA, WB, WC]
    refine WV (by rfl) (.bool true) (fun w' hw' => ?_) ?_
    ·obtain ⟨x0, x1, x2⟩ := hw'
     go_simp
    try simp only [Act.put, WA, WB, WC]
    refine WQ.done ?_
    rintro w6 ⟨-, -, hE⟩
    have p1 := kept_cell hE hp
    have pf1 := (hE.frozen (p := ⟨w.heap.size, 0, none⟩) hsz).trans hpf
    have hB6 := hB.trans (hE.mono (by omega))
    clear hE hp hpf
    go_wp2_with fail
    refine bodyPost_ret (v := .tuple #[.agg #[.slice none 0 0], .int .i64 2]) (by simp [results, Tryz.results113, go_sem, p1]) rfl ⟨?_, ?_⟩
    ·rw [hbf.out]
     exact rfl
    ·exact hB6.setCell (p := ⟨w.heap.size, 0, none⟩) (Nat.le_refl _) _
   | true =>
    have hright := fun W => rightOne l[j].key l[j].val W
    rw [show okB (⟨l[j].key, l[j].val⟩ : Ent) = true from hok] at hright
    have HRT := Lib.hid hright
    clear hright
    rcases j with _ | q
    ·have hR2 := Lib.hid (hst.out.2 ⟨hok, fun h => absurd h (by omega)⟩)
     clear hst hno hok
     generalize l[0] = u at *
     rw [show ((0 : Nat) : Int) = 0 from rfl] at hj1
     rw [Nat.zero_mul, Nat.add_zero] at q0 q1
     have hd : decide ((0 : Int) < 0) = false := rfl
     go_wp2_with fail
     refine WQ.region (C := fun w' => w'.cell? ⟨wr.heap.size, 0, none⟩ = some (.string (S u.key)) ∧ w'.cell? ⟨wr.heap.size, 1, none⟩ = some (.string (S u.val)) ∧ Below wr.heap.size wr w') (by kernel_rfl) (by kernel_rfl) (⟨cell_drew (by simp), cell_drew (by simp), by go_grown⟩) ?_
     refine WV (by rfl) (.agg #[.string (S u.key), .string (S u.val)]) (fun w' hw' => ?_) ?_
     ·obtain ⟨x0, x1, x2⟩ := hw'
      go_simp
     try simp only [Act.put, WA, WB, WC]
     refine WV (by rfl) (.bool true) (fun w' hw' => ?_) ?_
     ·obtain ⟨x0, x1, x2⟩ := hw'
      go_simp
      go_at_call 150
      refine (HRT.out _).mono ?_
      rintro e w6 ⟨he, hb6⟩
      exact ⟨he, kept_cell hb6 x0, kept_cell hb6 x1, x2.trans (hb6.mono x2.size)⟩
     try simp only [Act.put, WA, WB, WC]
     refine WV (by rfl) (.bool false) (fun w' hw' => ?_) ?_
     ·obtain ⟨x0, x1, x2⟩ := hw'
      go_simp
     try simp only [Act.put, WA, WB, WC]
     refine WM (by rfl) _ rfl ?_
     try simp only [Act.put, WA, WB, WC]
     refine WM (by rfl) _ rfl ?_
     try simp only [Act.put, WA, WB, WC]
     refine WV (by rfl) (.bool false) (fun w' hw' => ?_) ?_
     ·obtain ⟨x0, x1, x2⟩ := hw'
      go_simp
     try simp only [Act.put, WA, WB, WC]
     refine WM (by rfl) _ rfl ?_
     try simp only [Act.put, WA, WB, WC]
     refine WS (by rfl) ?_
     try simp only [Act.put, WA, WB, WC]
     refine WS (by rfl) ?_
     try simp only [Act.put, WA, WB, WC]
     refine WS (by rfl) ?_
     try simp only [Act.put, WA, WB, WC]
     refine WS (by rfl) ?_
     try simp only [Act.put, WA, WB, WC]
     refine WS (by rfl) ?_
     try simp only [Act.put, WA, WB, WC]
     refine WS (by rfl) ?_
     try simp only [Act.put, WA, WB, WC]
     refine WS (by rfl) ?_
     try simp only [Act.put, WA, WB, WC]
     refine WS (by rfl) ?_
     try simp only [Act.put, WA, WB, WC]
     refine WS (by rfl) ?_
     try simp only [Act.put, WA, WB, WC]
     refine WV (by rfl) (.bool false) (fun w' hw' => ?_) ?_
     ·obtain ⟨x0, x1, x2⟩ := hw'
      go_simp
     try simp only [Act.put, WA, WB, WC]
     refine WV (by rfl) (.bool false) (fun w' hw' => ?_) ?_
     ·obtain ⟨x0, x1, x2⟩ := hw'
      go_simp
     try simp only [Act.put, WA, WB, WC]
     refine WQ.done ?_
     rintro w6 ⟨-, -, hE⟩
     have p1 := kept_cell hE hp
     have pf1 := (hE.frozen (p := ⟨w.heap.size, 0, none⟩) hsz).trans hpf
     have hB6 := hB.trans (hE.mono (by omega))
     have hs6 : w.heap.size < w6.heap.size := Nat.lt_of_lt_of_le hsz hE.size
     clear hE hp hpf
     go_wp2_with fail
     exact ⟨⟨1, by go_num, by omega, hR2, p1, pf1, hs6, hB6⟩, by simp [intOf]; omega⟩
    ·obtain ⟨b', off', e', hb', t0', t1'⟩ := SlAt.cells2 HS0.out q (by omega)
     simp only [Option.some.injEq, Addr.mk.injEq] at e'
     obtain ⟨rfl, rfl, -⟩ := e'
     have q2 := (cell_below hB hb _).trans t0'
     have hq0 : (0 : Int) ≤ (q : Int) := Int.natCast_nonneg _
     have hq1 : (q : Int) < (l.length : Int) := by omega
     have hw1 : IntKind.i64.wrap (q : Int) = (q : Int) := IntWalk.i64_in _ (by omega)
     have hd : decide ((0 : Int) < (q : Int) + 1) = true := by rw [decide_eq_true_iff]; omega
     clear t0' t1'
     cases hlt : bl l[q].key l[q + 1].key with
     | true =>
      have hR2 := Lib.hid (hst.out.2 ⟨hok, fun h => hlt⟩)
      clear hst hno hok
      have hlt' : Op.bytesLess l[q].key l[q + 1].key = true := hlt
      clear hlt
      generalize l[q + 1] = u at *
      generalize l[q] = u' at *
      go_wp2_with fail
      refine WQ.region (C := fun w' => w'.cell? ⟨wr.heap.size, 0, none⟩ = some (.string (S u.key)) ∧ w'.cell? ⟨wr.heap.size, 1, none⟩ = some (.string (S u.val)) ∧ w'.cell? ⟨b, off + q * 2, none⟩ = some (.string (S u'.key)) ∧ Below wr.heap.size wr w') (by kernel_rfl) (by kernel_rfl) (⟨cell_drew (by simp), cell_drew (by simp), cell_drew (cell_past _ q2), by go_grown⟩) ?_
      refine WV (by rfl) (.agg #[.string (S u.key), .string (S u.val)]) (fun w' hw' => ?_) ?_
      ·obtain ⟨x0, x1, x3, x2⟩ := hw'
       go_simp
      try simp only [Act.put, WA, WB, WC]
      refine WV (by rfl) (.bool true) (fun w' hw' => ?_) ?_
      ·obtain ⟨x0, x1, x3, x2⟩ := hw'
       go_simp
       go_at_call 150
       refine (HRT.out _).mono ?_
       rintro e w6 ⟨he, hb6⟩
       exact ⟨he, kept_cell hb6 x0, kept_cell hb6 x1, kept_cell hb6 x3, x2.trans (hb6.mono x2.size)⟩
      try simp only [Act.put, WA, WB, WC]
      refine WV (by rfl) (.bool false) (fun w' hw' => ?_) ?_
      ·obtain ⟨x0, x1, x3, x2⟩ := hw'
       go_simp
      try simp only [Act.put, WA, WB, WC]
      refine WM (by rfl) _ rfl ?_
      try simp only [Act.put, WA, WB, WC]
      refine WM (by rfl) _ rfl ?_
      try simp only [Act.put, WA, WB, WC]
      refine WV (by rfl) (.bool true) (fun w' hw' => ?_) ?_
      ·obtain ⟨x0, x1, x3, x2⟩ := hw'
       go_simp
      try simp only [Act.put, WA, WB, WC]
      refine WM (by rfl) _ rfl ?_
      try simp only [Act.put, WA, WB, WC]
      refine WM (by rfl) _ rfl ?_
      try simp only [Act.put, WA, WB, WC]
      refine WM (by rfl) _ rfl ?_
      try simp only [Act.put, WA, WB, WC]
      refine WV (by rfl) (.int .i64 q) (fun w' hw' => ?_) ?_
      ·obtain ⟨x0, x1, x3, x2⟩ := hw'
       go_simp
      try simp only [Act.put, WA, WB, WC]
      refine WV (by rfl) (.pointer (some ⟨b, off + q * 2, none⟩)) (fun w' hw' => ?_) ?_
      ·obtain ⟨x0, x1, x3, x2⟩ := hw'
       go_simp
      try simp only [Act.put, WA, WB, WC]
      refine WV (by rfl) (.pointer (some ⟨b, off + q * 2, none⟩)) (fun w' hw' => ?_) ?_
      ·obtain ⟨x0, x1, x3, x2⟩ := hw'
       go_simp
      try simp only [Act.put, WA, WB, WC]
      refine WV (by rfl) (.string (S u'.key)) (fun w' hw' => ?_) ?_
      ·obtain ⟨x0, x1, x3, x2⟩ := hw'
       go_simp
      try simp only [Act.put, WA, WB, WC]
      refine WV (by rfl) (.pointer (some ⟨wr.heap.size, 0, none⟩)) (fun w' hw' => ?_) ?_
      ·obtain ⟨x0, x1, x3, x2⟩ := hw'
       go_simp
      try simp only [Act.put, WA, WB, WC]
      refine WV (by rfl) (.string (S u.key)) (fun w' hw' => ?_) ?_
      ·obtain ⟨x0, x1, x3, x2⟩ := hw'
       go_simp
      try simp only [Act.put, WA, WB, WC]
      refine WV (by rfl) (.bool false) (fun w' hw' => ?_) ?_
      ·obtain ⟨x0, x1, x3, x2⟩ := hw'
       go_simp
      try simp only [Act.put, WA, WB, WC]
      refine WV (by rfl) (.bool false) (fun w' hw' => ?_) ?_
      ·obtain ⟨x0, x1, x3, x2⟩ := hw'
       go_simp
      try simp only [Act.put, WA, WB, WC]
      refine WV (by rfl) (.bool false) (fun w' hw' => ?_) ?_
      ·obtain ⟨x0, x1, x3, x2⟩ := hw'
       go_simp
      try simp only [Act.put, WA, WB, WC]
      refine WQ.done ?_
      rintro w6 ⟨-, -, -, hE⟩
      have p1 := kept_cell hE hp
      have pf1 := (hE.frozen (p := ⟨w.heap.size, 0, none⟩) hsz).trans hpf
      have hB6 := hB.trans (hE.mono (by omega))
      have hs6 : w.heap.size < w6.heap.size := Nat.lt_of_lt_of_le hsz hE.size
      clear hE hp hpf
      go_wp2_with fail
      exact ⟨⟨q + 2, by go_num, by omega, hR2, p1, pf1, hs6, hB6⟩, by simp [intOf]; omega⟩
     | false =>
      have hbf := Lib.hid (hno.out (fun h => by have this : bl l[q].key l[q + 1].key = true := (hst.out.1 h).2 (by omega); rw [hlt] at this; exact absurd this (by simp)))
      clear hst hno hok
      have hlt' : Op.bytesLess l[q].key l[q + 1].key = false := hlt
      clear hlt
      generalize l[q + 1] = u at *
      generalize l[q] = u' at *
      go_wp2_with fail
      refine WQ.region (C := fun w' => w'.cell? ⟨wr.heap.size, 0, none⟩ = some (.string (S u.key)) ∧ w'.cell? ⟨wr.heap.size, 1, none⟩ = some (.string (S u.val)) ∧ w'.cell? ⟨b, off + q * 2, none⟩ = some (.string (S u'.key)) ∧ Below wr.heap.size wr w') (by kernel_rfl) (by kernel_rfl) (⟨cell_drew (by simp), cell_drew (by simp), cell_drew (cell_past _ q2), by go_grown⟩) ?_
      refine WV (by rfl) (.agg #[.string (S u.key), .string (S u.val)]) (fun w' hw' => ?_) ?_
      ·obtain ⟨x0, x1, x3, x2⟩ := hw'
       go_simp
      try simp only [Act.put, WA, WB, WC]
      refine WV (by rfl) (.bool true) (fun w' hw' => ?_) ?_
      ·obtain ⟨x0, x1, x3, x2⟩ := hw'
       go_simp
       go_at_call 150
       refine (HRT.out _).mono ?_
       rintro e w6 ⟨he, hb6⟩
       exact ⟨he, kept_cell hb6 x0, kept_cell hb6 x1, kept_cell hb6 x3, x2.trans (hb6.mono x2.size)⟩
      try simp only [Act.put, WA, WB, WC]
      refine WV (by rfl) (.bool false) (fun w' hw' => ?_) ?_
      ·obtain ⟨x0, x1, x3, x2⟩ := hw'
       go_simp
      try simp only [Act.put, WA, WB, WC]
      refine WM (by rfl) _ rfl ?_
      try simp only [Act.put, WA, WB, WC]
      refine WM (by rfl) _ rfl ?_
      try simp only [Act.put, WA, WB, WC]
      refine WV (by rfl) (.bool true) (fun w' hw' => ?_) ?_
      ·obtain ⟨x0, x1, x3, x2⟩ := hw'
       go_simp
      try simp only [Act.put, WA, WB, WC]
      refine WM (by rfl) _ rfl ?_
      try simp only [Act.put, WA, WB, WC]
      refine WM (by rfl) _ rfl ?_
      try simp only [Act.put, WA, WB, WC]
      refine WM (by rfl) _ rfl ?_
      try simp only [Act.put, WA, WB, WC]
      refine WV (by rfl) (.int .i64 q) (fun w' hw' => ?_) ?_
      ·obtain ⟨x0, x1, x3, x2⟩ := hw'
       go_simp
      try simp only [Act.put, WA, WB, WC]
      refine WV (by rfl) (.pointer (some ⟨b, off + q * 2, none⟩)) (fun w' hw' => ?_) ?_
      ·obtain ⟨x0, x1, x3, x2⟩ := hw'
       go_simp
      try simp only [Act.put, WA, WB, WC]
      refine WV (by rfl) (.pointer (some ⟨b, off + q * 2, none⟩)) (fun w' hw' => ?_) ?_
      ·obtain ⟨x0, x1, x3, x2⟩ := hw'
       go_simp
      try simp only [Act.put, WA, WB, WC]
      refine WV (by rfl) (.string (S u'.key)) (fun w' hw' => ?_) ?_
      ·obtain ⟨x0, x1, x3, x2⟩ := hw'
       go_simp
      try simp only [Act.put, WA, WB, WC]
      refine WV (by rfl) (.pointer (some ⟨wr.heap.size, 0, none⟩)) (fun w' hw' => ?_) ?_
      ·obtain ⟨x0, x1, x3, x2⟩ := hw'
       go_simp
      try simp only [Act.put, WA, WB, WC]
      refine WV (by rfl) (.string (S u.key)) (fun w' hw' => ?_) ?_
      ·obtain ⟨x0, x1, x3, x2⟩ := hw'
       go_simp
      try simp only [Act.put, WA, WB, WC]
      refine WV (by rfl) (.bool true) (fun w' hw' => ?_) ?_
      ·obtain ⟨x0, x1, x3, x2⟩ := hw'
       go_simp
      try simp only [Act.put, WA, WB, WC]
      refine WV (by rfl) (.bool true) (fun w' hw' => ?_) ?_
      ·obtain ⟨x0, x1, x3, x2⟩ := hw'
       go_simp
      try simp only [Act.put, WA, WB, WC]
      refine WV (by rfl) (.bool true) (fun w' hw' => ?_) ?_
      ·obtain ⟨x0, x1, x3, x2⟩ := hw'
       go_simp
      try simp only [Act.put, WA, WB, WC]
      refine WQ.done ?_
      rintro w6 ⟨-, -, -, hE⟩
      have p1 := kept_cell hE hp
      have pf1 := (hE.frozen (p := ⟨w.heap.size, 0, none⟩) hsz).trans hpf
      have hB6 := hB.trans (hE.mono (by omega))
      clear hE hp hpf
      go_wp2_with fail
      refine bodyPost_ret (v := .tuple #[.agg #[.slice none 0 0], .int .i64 2]) (by simp [results, Tryz.results113, go_sem, p1]) rfl ⟨?_, ?_⟩
      ·rw [hbf.out]
       exact rfl
      ·exact hB6.setCell (p := ⟨w.heap.size, 0, none⟩) (Nat.le_refl _) _
  ·obtain rfl : j = l.length := by omega
   have hbt := Lib.hid (HBO.out.2 (by have := hR.out; rwa [List.take_length] at this))
   have HS2 := Lib.hid (HS.out.kept hB (Nat.le_refl _))
   go_wp2_with fail
   refine (thread (cloneE _ l wr HS2.out hl) wr.heap.size wr (Below.refl _ _) (Nat.le_refl _)).mono ?_
   rintro e w1 ⟨⟨v1, rfl, hown1⟩, hX1, hk1, hf1, -, hz1⟩
   obtain ⟨a1, c1, e1⟩ := own_form hown1
   subst e1
   have p1 := (hk1 w.heap.size 0 hsz).trans hp
   have pf1 := (hf1 w.heap.size 0 hsz).trans hpf
   have hB1 := hB.trans (hX1.mono (by omega))
   have HO1 := Lib.hid hown1
   clear hk1 hf1 hX1 hp hpf hown1
   go_wp2_with fail
   refine bodyPost_ret (v := .tuple #[.agg #[.slice a1 l.length c1], .int .i64 0]) (by simp [results, Tryz.results113, go_sem, p1]) rfl ⟨?_, ?_⟩
   ·rw [hbt.out]
    exact ⟨a1, c1, rfl, own_base (ownsRow_setCell_other (a := ⟨w.heap.size, 0, none⟩) HO1.out (fun e => by have h := ((HO1.out).lt _ e).1; have h2 : wr.heap.size ≤ w.heap.size := h; omega) _) (by omega)⟩
   ·exact hB1.setCell (p := ⟨w.heap.size, 0, none⟩) (Nat.le_refl _) _
open Go.RowKit
open Go.RowKit
theorem lookE_cons (e : Ent) (l : List Ent) (k : List UInt8) : lookE (e :: l) k = if e.key = k then some e.val else lookE l k := by
 unfold lookE
 rw [List.find?_cons]
 by_cases h : e.key = k
 ·simp [h]
 ·have : (e.key == k) = false := by simpa using h
  simp [h, this]
open Go.RowKit
open Go.RowKit
theorem infoR : (Tryz.prog.info? 72).map (fun i => (i.zero, i.size, i.bytes)) = some (some (.agg #[.string ByteArray.empty, .string ByteArray.empty]), 2, 32) := by kernel_rfl
theorem SlE.of_row {w : World} {B n : Nat} {E : TypeId} {v : Value} {l : List Ent} (h : w.ownsRow B E 2 v n (cellsE l)) : l.length = n ∧ SlE w v l := by
 have hn : l.length = n := by have := h.1; rw [cellsE_len] at this; omega
 refine ⟨hn, ?_⟩
 subst hn
 rcases ownsRow_open h with ⟨rfl, h0, -⟩ | ⟨g, cap, cur, rfl, -, hr, h3, h4, h5, h6⟩
 ·obtain rfl := List.eq_nil_of_length_eq_zero h0
  exact SlE.nil w
 ·refine ⟨_, cap, rfl, Or.inr ⟨g, 0, rfl, hr.lt, fun i hi j x hx => ?_⟩, h3, by unfold maxLen at h4; omega, fun e => by simp at e⟩
  have hj : j < 2 := (List.getElem?_eq_some_iff.1 hx).1
  have e := cellsE_get l i hi j x hx
  rw [hr.cell, Nat.zero_add, ← e, ← h6, List.getElem?_take, if_pos (by omega)]
theorem cell_two_new (w : World) (x y : Value) (t : TypeId) : ∀ j v, [x, y][j]? = some v → (w.alloc (.cells #[x, y] t)).cell? ((⟨w.heap.size, 0, none⟩ : Addr).add j) = some v := by
 intro j v hj
 match j, hj with
 | 0, hj => simp at hj; subst hj; simp [Addr.add]
 | 1, hj => simp at hj; subst hj; simp [Addr.add]
open Go.RowKit
open Go.RowKit
attribute [local go_sem ↓] Go.wp_at_zero Go.wp_at_succ
def ParRes (B : Nat) (p : List Ent × Nat) (e : Ending) (w' : World) : Prop :=
 ∃ a c, e = .returned (.tuple #[.slice a p.1.length c, .int .i64 p.2]) ∧ w'.ownsRow B 72 2 (.slice a p.1.length c) p.1.length (cellsE p.1)
theorem refParse_any (s0 : List UInt8) (hl : s0.length ≤ 1000000) (w : World) :
  Calls Tryz.prog 37 #[.string (S s0)] w fun e w' => ParRes w.heap.size (parseE s0) e w' ∧ Below w.heap.size w w' := by
 obtain ⟨i0, hi, iz0, iz1, iz2⟩ := info_parts infoR
 have HE0 := Lib.hid (fun h : rawE s0 = none => parseE_none h)
 have HE1 := Lib.hid (fun (l : List Ent) (h : rawE s0 = some l) => And.intro (parseE_bad h) (parseE_ok h))
 generalize parseE s0 = P at *
 go_enter Tryz.func37, Tryz.ntmps37
 go_wp2_with fail
 go_loopw [0, 4] (fun s v wr => ∃ (t : List UInt8) (acc : List Ent), s = .string (S t) ∧ t.length + acc.length ≤ s0.length ∧ Hid (rawE s0 = (rawE t).map fun l => acc ++ l) ∧ wr.ownsRow w.heap.size 72 2 v acc.length (cellsE acc) ∧ Below w.heap.size w wr) (fun s _ _ => match s with | .string x => x.size | _ => 0)
 case atStart => exact ⟨s0, [], rfl, by simp, Lib.hid (by simp), World.ownsRow_nil _ _ _ _, by go_grown⟩
 case round =>
  obtain ⟨t, acc, rfl, hlen, hR, hown, hB⟩ := hrel
  obtain ⟨av, ac, ea⟩ := own_form hown
  subst ea
  have HO := Lib.hid hown
  cases t with
  | nil =>
   have hraw := Lib.hid (raw_end hR.out)
   have hsl := SlE.of_row hown
   obtain ⟨x, y, ee, hsa, -⟩ := hsl.2
   simp only [Value.slice.injEq] at ee
   obtain ⟨rfl, -, rfl⟩ := ee
   have HR := Lib.hid (refRight_any av ac acc (rightB acc) (rightB_iff acc) wr (by omega) hsa)
   have HE := Lib.hid (HE1.out acc hraw.out)
   clear hown hsl hsa hraw hR
   cases hb : rightB acc with
   | false =>
    rw [hb] at HR
    have HP := Lib.hid (HE.out.1 hb)
    clear HE hb
    go_wp2_with fail
    refine (thread HR.out w.heap.size w hB hB.size).mono ?_
    rintro e w1 ⟨rfl, hB1, -, -, -, hz1⟩
    go_wp2_with fail
    refine bodyPost_ret (v := .tuple #[.slice none 0 0, .int .i64 4]) (by simp [results, Tryz.results37, go_sem]) rfl ⟨?_, hB1⟩
    rw [HP.out]
    exact ⟨none, 0, rfl, World.ownsRow_nil _ _ _ _⟩
   | true =>
    rw [hb] at HR
    have HP := Lib.hid (HE.out.2 hb)
    clear HE hb
    go_wp2_with fail
    refine (thread HR.out wr.heap.size wr (Below.refl _ _) (Nat.le_refl _)).mono ?_
    rintro e w1 ⟨rfl, hX1, -, -, -, hz1⟩
    have HO1 := Lib.hid (own_below HO.out hX1)
    have hB1 := hB.trans (hX1.mono hB.size)
    go_wp2_with fail
    refine bodyPost_ret (v := .tuple #[.slice av acc.length ac, .int .i64 0]) (by simp [results, Tryz.results37, go_sem]) rfl ⟨?_, hB1⟩
    rw [HP.out]
    exact ⟨av, ac, rfl, HO1.out⟩
  | cons b r =>
   have hl0 : (S (b :: r)).size = r.length + 1 := by rw [S_size]; rfl
   rw [List.length_cons] at hlen
   have hs1 := fun W => refSplit_any (b :: r) (by rw [List.length_cons]; omega) W
   unfold splitV at hs1
   have hq1 := splitL_len (b :: r)
   have hst : stepE (b :: r) = if (splitL (b :: r)).2.2 && (splitL (splitL (b :: r)).2.1).2.2 then some (⟨(splitL (b :: r)).1, (splitL (splitL (b :: r)).2.1).1⟩, (splitL (splitL (b :: r)).2.1).2.1) else none := rfl
   rw [List.length_cons] at hq1
   generalize splitL (b :: r) = p1 at *
   obtain ⟨k, rest, ok⟩ := p1
   dsimp only at hs1 hq1 hst
   have hs2 := fun W => refSplit_any rest (by omega) W
   unfold splitV at hs2
   have hq2 := splitL_len rest
   generalize splitL rest = p2 at *
   obtain ⟨v, more, is⟩ := p2
   dsimp only at hs2 hq2 hst
   obtain ⟨hq1, hq1'⟩ := hq1
   obtain ⟨hq2, hq2'⟩ := hq2
   have H1 := Lib.hid hs1
   have H2 := Lib.hid hs2
   clear hs1 hs2 hown
   by_cases hgo : ok = true ∧ is = true
   ·obtain ⟨rfl, rfl⟩ := hgo
    have hstep : stepE (b :: r) = some (⟨k, v⟩, more) := by rw [hst]; rfl
    have HN := Lib.hid (raw_more hR.out (by simp) hstep)
    have hq3 := hq1' rfl
    clear hst hstep hq1' hq2' hR
    go_wp2_with fail
    refine (thread (H1.out _) wr.heap.size wr (by go_grown) (by go_grown)).mono ?_
    rintro e w1 ⟨rfl, hX1, -, -, -, hz1⟩
    have HO1 := Lib.hid (own_below HO.out hX1)
    have hB1 := hB.trans (hX1.mono hB.size)
    go_wp2_with fail
    refine (thread (H2.out _) w1.heap.size w1 (by go_grown) (by go_grown)).mono ?_
    rintro e w2 ⟨rfl, hX2, -, -, -, hz2⟩
    have HO2 := Lib.hid (own_below HO1.out hX2)
    have hB2 := hB1.trans (hX2.mono hB1.size)
    have hz := hB2.size
    clear H1 H2 hX1 hX2
    go_wp2_with (at_builtin; go_must (refine wpList_append_own_at _ rfl _ _ 49 rfl w.heap.size 72 i0 (.agg #[.string ByteArray.empty, .string ByteArray.empty]) 2 32 Tryz.underlying49 hi iz0 iz1 iz2 rfl (by decide) _ acc.length _ rfl (HO2.out.alloc _) ⟨w2.heap.size, 0, none⟩ 1 1 [.string (S k), .string (S v)] rfl rfl (cell_two_new _ _ _ _) (by simp [Value.oneCell']) (by unfold maxLen; omega) (by omega) (by simp; omega) ?_; intro vz wz hownz hgrowz _ _))
    go_roundw
    (case rel => exact (⟨more, acc ++ [⟨k, v⟩], rfl, by rw [List.length_append, List.length_singleton]; omega, HN, by rw [cellsE_append, cellsE_one, List.length_append, List.length_singleton]; exact hownz, below_grown (hB2.alloc hz _) hgrowz (fun k e => (HO2.out.lt k e).1) (by simp; omega)⟩))
    (case measure => simp [S_size]; omega)
   ·have hno : (ok && is) = false := by
     cases ok <;> cases is <;> simp_all
    have hstep : stepE (b :: r) = none := by rw [hst, hno]; rfl
    have HP := Lib.hid (HE0.out (raw_stop hR.out (by simp) hstep))
    clear hst hstep hq1' hq2' hR hgo
    cases ok with
    | false =>
     clear hno
     go_wp2_with fail
     refine (thread (H1.out _) wr.heap.size wr (by go_grown) (by go_grown)).mono ?_
     rintro e w1 ⟨rfl, hX1, -, -, -, hz1⟩
     have hB1 := hB.trans (hX1.mono hB.size)
     go_wp2_with fail
     refine (thread (H2.out _) w1.heap.size w1 (by go_grown) (by go_grown)).mono ?_
     rintro e w2 ⟨rfl, hX2, -, -, -, hz2⟩
     have hB2 := hB1.trans (hX2.mono hB1.size)
     clear H1 H2 hX1 hX2
     go_wp2_with fail
     refine bodyPost_ret (v := .tuple #[.slice none 0 0, .int .i64 4]) (by simp [results, Tryz.results37, go_sem]) rfl ⟨?_, hB2⟩
     rw [HP.out]
     exact ⟨none, 0, rfl, World.ownsRow_nil _ _ _ _⟩
    | true =>
     obtain rfl : is = false := by simpa using hno
     clear hno
     go_wp2_with fail
     refine (thread (H1.out _) wr.heap.size wr (by go_grown) (by go_grown)).mono ?_
     rintro e w1 ⟨rfl, hX1, -, -, -, hz1⟩
     have hB1 := hB.trans (hX1.mono hB.size)
     go_wp2_with fail
     refine (thread (H2.out _) w1.heap.size w1 (by go_grown) (by go_grown)).mono ?_
     rintro e w2 ⟨rfl, hX2, -, -, -, hz2⟩
     have hB2 := hB1.trans (hX2.mono hB1.size)
     clear H1 H2 hX1 hX2
     go_wp2_with fail
     refine bodyPost_ret (v := .tuple #[.slice none 0 0, .int .i64 4]) (by simp [results, Tryz.results37, go_sem]) rfl ⟨?_, hB2⟩
     rw [HP.out]
     exact ⟨none, 0, rfl, World.ownsRow_nil _ _ _ _⟩
open Go.RowKit
attribute [local go_sem ↓] Go.wp_at_zero Go.wp_at_succ
def LfRes (B : Nat) (p : List Ent × Nat) (e : Ending) (w' : World) : Prop :=
 ∃ a c, e = .returned (.tuple #[.agg #[.slice a p.1.length c], .int .i64 p.2]) ∧ w'.ownsRow B 73 2 (.slice a p.1.length c) p.1.length (cellsE p.1)
theorem LfRes.none (B : Nat) (n : Nat) (w' : World) (e : Ending) (he : e = .returned (.tuple #[.agg #[.slice none 0 0], .int .i64 n])) : LfRes B ([], n) e w' := ⟨Option.none, 0, he, World.ownsRow_nil _ _ _ _⟩
theorem leafParse_any (s0 : List UInt8) (hl : s0.length ≤ 1000000) (w : World) :
  Calls Tryz.prog 86 #[.string (S s0)] w fun e w' => LfRes w.heap.size (parseE s0) e w' ∧ Below w.heap.size w w' := by
 obtain ⟨i0, hi, iz0, iz1, iz2⟩ := info_parts infoE
 have HE0 := Lib.hid (fun h : rawE s0 = none => parseE_none h)
 have HE1 := Lib.hid (fun (l : List Ent) (h : rawE s0 = some l) => And.intro (parseE_bad h) (parseE_ok h))
 generalize parseE s0 = P at *
 go_enter Tryz.func86, Tryz.ntmps86
 go_wp2_with fail
 go_loopw [0, 4] (fun s v wr => ∃ (t : List UInt8) (acc : List Ent), s = .string (S t) ∧ t.length + acc.length ≤ s0.length ∧ Hid (rawE s0 = (rawE t).map fun l => acc ++ l) ∧ wr.ownsRow (w.heap.size + 1) 73 2 v acc.length (cellsE acc) ∧ Below (w.heap.size + 1) (w.alloc (.cells #[.slice none 0 0] 99)) wr) (fun s _ _ => match s with | .string x => x.size | _ => 0)
 case atStart => exact ⟨s0, [], rfl, by simp, Lib.hid (by simp), World.ownsRow_nil _ _ _ _, Below.refl _ _⟩
 case round =>
  obtain ⟨t, acc, rfl, hlen, hR, hown, hB⟩ := hrel
  obtain ⟨av, ac, ea⟩ := own_form hown
  subst ea
  have HO := Lib.hid hown
  have hsz := hB.size
  have hsz1 : w.heap.size + 1 ≤ wr.heap.size := by simpa using hsz
  clear hsz
  have p0 : wr.cell? ⟨w.heap.size, 0, none⟩ = some (.slice none 0 0) := (hB.cell (p := ⟨w.heap.size, 0, none⟩) (Nat.lt_succ_self _)).trans (by simp)
  have pf : wr.frozen? ⟨w.heap.size, 0, none⟩ = false := (hB.frozen (p := ⟨w.heap.size, 0, none⟩) (Nat.lt_succ_self _)).trans (by simp)
  have hBw : Below w.heap.size w wr := (Below.alloc (Below.refl _ w) (Nat.le_refl _) (.cells #[.slice none 0 0] 99)).trans (hB.mono (Nat.le_succ _))
  cases t with
  | nil =>
   have hraw := Lib.hid (raw_end hR.out)
   have hsl := (SlE.of_own hown).2
   have HR := Lib.hid (leafOf_any av acc.length ac acc wr rfl (by omega) hsl)
   have HE := Lib.hid (HE1.out acc hraw.out)
   clear hown hsl hraw hR
   cases hb : rightB acc with
   | false =>
    rw [hb] at HR
    have HP := Lib.hid (HE.out.1 hb)
    clear HE hb
    go_wp2_with fail
    refine (thread HR.out wr.heap.size wr (Below.refl _ _) (Nat.le_refl _)).mono ?_
    rintro e w1 ⟨rfl, hX1, hk1, hf1, -, hz1⟩
    have p1 := (hk1 w.heap.size 0 (by omega)).trans p0
    have pf1 := (hf1 w.heap.size 0 (by omega)).trans pf
    have hB1 := hBw.trans (hX1.mono (by omega))
    have hlt1 : w.heap.size < w1.heap.size := by omega
    clear hk1 hf1 hX1 p0 pf
    go_wp2_with fail
    have pz := cell_past (.cells #[.slice none 0 0] 99) (show (w1.setCell ⟨w.heap.size, 0, none⟩ (.slice none 0 0)).cell? ⟨w.heap.size, 0, none⟩ = some (.slice none 0 0) from World.cell?_setCell_same w1 _ _ p1)
    refine bodyPost_ret (v := .tuple #[.agg #[.slice none 0 0], .int .i64 4]) (by simp [results, Tryz.results86, go_sem, pz]) rfl ⟨?_, ?_⟩
    ·rw [HP.out]
     exact LfRes.none _ _ _ _ rfl
    ·exact (hB1.setCell (p := ⟨w.heap.size, 0, none⟩) (Nat.le_refl _) _).alloc (by rw [World.size_setCell]; omega) _
   | true =>
    rw [hb] at HR
    have HP := Lib.hid (HE.out.2 hb)
    clear HE hb
    go_wp2_with fail
    refine (thread HR.out wr.heap.size wr (Below.refl _ _) (Nat.le_refl _)).mono ?_
    rintro e w1 ⟨⟨a1, c1, rfl, hown1⟩, hX1, hk1, hf1, -, hz1⟩
    have p1 := (hk1 w.heap.size 0 (by omega)).trans p0
    have pf1 := (hf1 w.heap.size 0 (by omega)).trans pf
    have hB1 := hBw.trans (hX1.mono (by omega))
    have HO1 := Lib.hid hown1
    have hlt1 : w.heap.size < w1.heap.size := by omega
    clear hk1 hf1 hX1 p0 pf hown1
    go_wp2_with fail
    have pz := cell_past (.cells #[.slice a1 acc.length c1] 99) (show (w1.setCell ⟨w.heap.size, 0, none⟩ (.slice a1 acc.length c1)).cell? ⟨w.heap.size, 0, none⟩ = some (.slice a1 acc.length c1) from World.cell?_setCell_same w1 _ _ p1)
    refine bodyPost_ret (v := .tuple #[.agg #[.slice a1 acc.length c1], .int .i64 0]) (by simp [results, Tryz.results86, go_sem, pz]) rfl ⟨?_, ?_⟩
    ·rw [HP.out]
     exact ⟨a1, c1, rfl, own_base ((ownsRow_setCell_other (a := ⟨w.heap.size, 0, none⟩) HO1.out (fun e => by have h : wr.heap.size ≤ w.heap.size := (HO1.out.lt _ e).1; omega) _).alloc _) (by omega)⟩
    ·exact (hB1.setCell (p := ⟨w.heap.size, 0, none⟩) (Nat.le_refl _) _).alloc (by rw [World.size_setCell]; omega) _
  | cons b r =>
   have hl0 : (S (b :: r)).size = r.length + 1 := by rw [S_size]; rfl
   rw [List.length_cons] at hlen
   have hs1 := fun W => split_any (b :: r) (by rw [List.length_cons]; omega) W
   unfold splitV at hs1
   have hq1 := splitL_len (b :: r)
   have hst : stepE (b :: r) = if (splitL (b :: r)).2.2 && (splitL (splitL (b :: r)).2.1).2.2 then some (⟨(splitL (b :: r)).1, (splitL (splitL (b :: r)).2.1).1⟩, (splitL (splitL (b :: r)).2.1).2.1) else none := rfl
   rw [List.length_cons] at hq1
   generalize splitL (b :: r) = p1 at *
   obtain ⟨k, rest, ok⟩ := p1
   dsimp only at hs1 hq1 hst
   have hs2 := fun W => split_any rest (by omega) W
   unfold splitV at hs2
   have hq2 := splitL_len rest
   generalize splitL rest = p2 at *
   obtain ⟨v, more, is⟩ := p2
   dsimp only at hs2 hq2 hst
   obtain ⟨hq1, hq1'⟩ := hq1
   obtain ⟨hq2, hq2'⟩ := hq2
   have H1 := Lib.hid hs1
   have H2 := Lib.hid hs2
   clear hs1 hs2 hown
   by_cases hgo : ok = true ∧ is = true
   ·obtain ⟨rfl, rfl⟩ := hgo
    have hstep : stepE (b :: r) = some (⟨k, v⟩, more) := by rw [hst]; rfl
    have HN := Lib.hid (raw_more hR.out (by simp) hstep)
    have hq3 := hq1' rfl
    clear hst hstep hq1' hq2' hR p0 pf hBw
    go_wp2_with fail
    refine (thread (H1.out _) wr.heap.size wr (by go_grown) (by go_grown)).mono ?_
    rintro e w1 ⟨rfl, hX1, -, -, -, hz1⟩
    have HO1 := Lib.hid (own_below HO.out hX1)
    have hB1 := hB.trans (hX1.mono hsz1)
    go_wp2_with fail
    refine (thread (H2.out _) w1.heap.size w1 (by go_grown) (by go_grown)).mono ?_
    rintro e w2 ⟨rfl, hX2, -, -, -, hz2⟩
    have HO2 := Lib.hid (own_below HO1.out hX2)
    have hB2 := hB1.trans (hX2.mono (by omega))
    have hz : w.heap.size + 1 ≤ w2.heap.size := by omega
    clear H1 H2 hX1 hX2
    go_wp2_with (at_builtin; go_must (refine wpList_append_own_at _ rfl _ _ 43 rfl (w.heap.size + 1) 73 i0 (.agg #[.string ByteArray.empty, .string ByteArray.empty]) 2 32 Tryz.underlying43 hi iz0 iz1 iz2 rfl (by decide) _ acc.length _ rfl (HO2.out.alloc _) ⟨w2.heap.size, 0, none⟩ 1 1 [.string (S k), .string (S v)] rfl rfl (cell_two_new _ _ _ _) (by simp [Value.oneCell']) (by unfold maxLen; omega) (by omega) (by simp; omega) ?_; intro vz wz hownz hgrowz _ _))
    go_roundw
    (case rel => exact (⟨more, acc ++ [⟨k, v⟩], rfl, by rw [List.length_append, List.length_singleton]; omega, HN, by rw [cellsE_append, cellsE_one, List.length_append, List.length_singleton]; exact hownz, below_grown (hB2.alloc hz _) hgrowz (fun k e => (HO2.out.lt k e).1) (by simp; omega)⟩))
    (case measure => simp [S_size]; omega)
   ·have hno : (ok && is) = false := by
     cases ok <;> cases is <;> simp_all
    have hstep : stepE (b :: r) = none := by rw [hst, hno]; rfl
    have HP := Lib.hid (HE0.out (raw_stop hR.out (by simp) hstep))
    clear hst hstep hq1' hq2' hR hgo
    cases ok with
    | false =>
     clear hno
     go_wp2_with fail
     refine (thread (H1.out _) wr.heap.size wr (by go_grown) (by go_grown)).mono ?_
     rintro e w1 ⟨rfl, hX1, hk1, hf1, -, hz1⟩
     have p1 := (hk1 w.heap.size 0 (by omega)).trans p0
     have pf1 := (hf1 w.heap.size 0 (by omega)).trans pf
     have hB1 := hBw.trans (hX1.mono (by omega))
     clear hk1 hf1 hX1 p0 pf
     go_wp2_with fail
     refine (thread (H2.out _) w1.heap.size w1 (by go_grown) (by go_grown)).mono ?_
     rintro e w2 ⟨rfl, hX2, hk2, hf2, -, hz2⟩
     have p2 := (hk2 w.heap.size 0 (by omega)).trans p1
     have pf2 := (hf2 w.heap.size 0 (by omega)).trans pf1
     have hB2 := hB1.trans (hX2.mono (by omega))
     clear H1 H2 hk2 hf2 hX2 p1 pf1
     go_wp2_with fail
     refine bodyPost_ret (v := .tuple #[.agg #[.slice none 0 0], .int .i64 4]) (by simp [results, Tryz.results86, go_sem, p2]) rfl ⟨?_, ?_⟩
     ·rw [HP.out]
      exact LfRes.none _ _ _ _ rfl
     ·exact hB2.setCell (p := ⟨w.heap.size, 0, none⟩) (Nat.le_refl _) _
    | true =>
     obtain rfl : is = false := by simpa using hno
     clear hno
     go_wp2_with fail
     refine (thread (H1.out _) wr.heap.size wr (by go_grown) (by go_grown)).mono ?_
     rintro e w1 ⟨rfl, hX1, hk1, hf1, -, hz1⟩
     have p1 := (hk1 w.heap.size 0 (by omega)).trans p0
     have pf1 := (hf1 w.heap.size 0 (by omega)).trans pf
     have hB1 := hBw.trans (hX1.mono (by omega))
     clear hk1 hf1 hX1 p0 pf
     go_wp2_with fail
     refine (thread (H2.out _) w1.heap.size w1 (by go_grown) (by go_grown)).mono ?_
     rintro e w2 ⟨rfl, hX2, hk2, hf2, -, hz2⟩
     have p2 := (hk2 w.heap.size 0 (by omega)).trans p1
     have pf2 := (hf2 w.heap.size 0 (by omega)).trans pf1
     have hB2 := hB1.trans (hX2.mono (by omega))
     clear H1 H2 hk2 hf2 hX2 p1 pf1
     go_wp2_with fail
     refine bodyPost_ret (v := .tuple #[.agg #[.slice none 0 0], .int .i64 4]) (by simp [results, Tryz.results86, go_sem, p2]) rfl ⟨?_, ?_⟩
     ·rw [HP.out]
      exact LfRes.none _ _ _ _ rfl
     ·exact hB2.setCell (p := ⟨w.heap.size, 0, none⟩) (Nat.le_refl _) _
open Go.RowKit
theorem entText_step {l : List Ent} {i : Nat} (hi : i < l.length) : entText (l.take (i + 1)) = entText (l.take i) ++ (l[i]).bytes := by
 rw [List.take_succ_eq_append_getElem hi]; simp only [entText, List.flatMap_append, List.flatMap_cons, List.flatMap_nil, List.append_nil]
open Go.RowKit
open Go.RowKit
open Go.RowKit
attribute [local go_sem ↓] Go.wp_at_zero Go.wp_at_succ
theorem entBytes (u : Ent) : Ent.bytes u = joinT u.key ++ joinT u.val := by simp [Ent.bytes, joinT]
theorem entText_len : ∀ l : List Ent, FineE l → (entText l).length ≤ 50 * l.length
 | [], _ => by simp [entText]
 | e :: l, h => by
  have h1 := entText_len l (fun x hx => h x (List.mem_cons_of_mem _ hx))
  obtain ⟨-, h2, h3⟩ := h e (by simp)
  have h4 : entText (e :: l) = Ent.bytes e ++ entText l := rfl
  rw [h4, entBytes, List.length_append, List.length_append, joinT_len, joinT_len, List.length_cons]
  omega
theorem leafText_any (a : Option Addr) (n c : Nat) (l : List Ent) (w : World) (hn : n = l.length) (hv : BoxE w (.agg #[.slice a n c]) l) (hl : l.length ≤ 10000) (hf : FineE l) :
  Calls Tryz.prog 79 #[.agg #[.slice a n c]] w fun e w' => e = .returned (.tuple #[.string (S (entText l)), .int .i64 0]) ∧ Below w.heap.size w w' := by
 obtain ⟨s0, e0, hs0⟩ := hv
 simp only [Value.agg.injEq, Array.mk.injEq, List.cons.injEq, and_true] at e0
 subst e0
 obtain ⟨a', c', e1, hs, -, -, -⟩ := hs0
 simp only [Value.slice.injEq] at e1
 obtain ⟨rfl, -, rfl⟩ := e1
 have HN := Lib.hid hn
 clear hn
 go_enter Tryz.func79, Tryz.ntmps79
 go_wp2_with fail
 go_loopw [14] (fun i wr => ∃ j : Nat, i = .int .i64 j ∧ j ≤ n ∧ IsB (w.heap.size + 1) (w.heap.size + 1) (Lib.byteCells (entText (l.take j))) wr ∧ Below w.heap.size w wr ∧ w.heap.size + 1 < wr.heap.size) (fun i _ => n - (intOf i).toNat)
 case atStart => exact ⟨0, rfl, Nat.zero_le _, by simpa [entText, Lib.byteCells] using Lib.fresh_isBuilder 200 5 (w.alloc (.cells #[.slice a n c] 99)), by go_grown, by simp⟩
 case round =>
  obtain ⟨j, rfl, hj, hI, hB, hz⟩ := hrel
  have hj0 : (0 : Int) ≤ (j : Int) := Int.natCast_nonneg _
  have HI := Lib.hid hI
  clear hI
  by_cases hjn : j < n
  ·have hj1 : (j : Int) < (n : Int) := by omega
   have hjl : j < l.length := by have := HN.out; omega
   obtain ⟨b, off, rfl, hb, t0, t1⟩ := SlAt.cells2 hs j hjl
   have q0 := (cell_below hB hb _).trans t0
   have q1 := (cell_below hB hb _).trans t1
   obtain ⟨f1, f2, f3⟩ := hf _ (List.getElem_mem hjl)
   have hst := Lib.hid (entText_step hjl)
   clear t0 t1
   generalize l[j] = u at *
   have hjk := fun w => lendJoin_any u.key (by omega) w
   have hjv := fun w => lendJoin_any u.val (by omega) w
   have HJ := Lib.hid hjk
   have HJV := Lib.hid hjv
   clear hjk hjv
   go_wp2_with fail
   refine (thread (HJ.out _) wr.heap.size wr (by go_grown) (by go_grown)).mono ?_
   rintro e w1 ⟨rfl, hX1, hk1, -, -, hz1⟩
   have e1 : w1.cell? ⟨wr.heap.size, 1, none⟩ = some (.string (S u.val)) := (hk1 wr.heap.size 1 (by simp)).trans (by simp)
   clear hk1
   go_wp2_with fail
   refine (thread (HJV.out _) wr.heap.size wr hX1 hz1).mono ?_
   rintro e w2 ⟨rfl, hX2, -, -, -, hz2⟩
   have HI2 := Lib.hid (HI.out.on hX2)
   have hB2 := hB.trans (hX2.mono hB.size)
   have hk2 := joinT_len u.key
   have hv2 := joinT_len u.val
   have hlen : ¬ 9223372036854775807 < (joinT u.key).length + (joinT u.val).length := by omega
   have htl := entText_len (l.take j) (fun x hx => hf x (List.mem_of_mem_take hx))
   rw [List.length_take] at htl
   have HW := Lib.hid (bld_write (w.heap.size + 1) (w.heap.size + 1) _ (S (joinT u.key ++ joinT u.val)) w2 HI2.out (by rw [Lib.byteCells_length, S_size, List.length_append]; omega) (by have := hB2.size; omega))
   clear HI HJ HJV hX1 hX2 e1 hk2 hv2 htl
   go_wp2_with fail
   refine (HW.out).mono ?_
   rintro e w3 ⟨rfl, hI3, hX3⟩
   rw [strCells_S, ← byteCells_app, ← entBytes, ← hst.out] at hI3
   have hB3 := hB2.trans (hX3.mono (by omega))
   have hz3 : w.heap.size + 1 < w3.heap.size := by have := hX3.size; omega
   clear HW
   go_wp2_with fail
   go_roundw
   (case rel => exact (⟨j + 1, by go_num, by omega, hI3, hB3, hz3⟩))
   (case measure => first | (simp [intOf]; done) | (simp [intOf]; omega))
  ·obtain rfl : j = n := by omega
   have hta : l.take j = l := by rw [HN.out, List.take_length]
   rw [hta] at HI
   clear hta
   go_wp2_with fail
   refine (bld_string (w.heap.size + 1) (w.heap.size + 1) (entText l) wr HI.out (by omega)).mono ?_
   rintro e w1 ⟨rfl, hX1⟩
   go_wp2_with fail
   go_ret2
   exact ⟨rfl, hB.trans (hX1.mono (by omega))⟩
open Go.RowKit
structure FourAt (W : World) (g : Nat) (X : Upd) : Prop where
 c0 : W.cell? ⟨g, 0, none⟩ = some (.int .u8 X.kind)
 c1 : W.cell? ⟨g, 1, none⟩ = some (.string (S X.key))
 c2 : W.cell? ⟨g, 2, none⟩ = some (.string (S X.val))
 c3 : W.cell? ⟨g, 3, none⟩ = some (.int .u64 X.delta)
section
variable {W w' : World} {g : Nat} {X : Upd}
end
structure Two (base p q : Nat) (X : Upd) (E1 E2 : TypeId) (W0 W : World) (A M : Value) (na nm : Nat) (xa xm : List Value) : Prop where
 own1 : W.ownsRow base E1 4 A na xa
 own2 : W.ownsRow base E2 4 M nm xm
 below : Below base W0 W
 le : base ≤ W.heap.size
 atP : FourAt W p X
 atQ : FourAt W q X
 far1 : A.ownBlock ≠ some p ∧ A.ownBlock ≠ some q
 far2 : M.ownBlock ≠ some p ∧ M.ownBlock ≠ some q
section
variable {base p q : Nat} {X : Upd} {E1 E2 : TypeId} {W0 W : World} {A M : Value} {na nm : Nat} {xa xm : List Value}
end
open Go.RowKit
theorem withL_tm {l : List Upd} (hr : Rising Upd.key l) (hf : ∀ x ∈ l, Tm x) (u : Upd) (hu : Tm u) : ∀ x ∈ withL l u, Tm x := by
 cases h : hasKey Upd.key l u.key with
 | false =>
  rw [withL_new h]
  intro x hx
  rcases insU_mem.1 hx with rfl | hx
  ·exact hu
  ·exact hf x hx
 | true =>
  obtain ⟨i, hi, hk, e⟩ := withL_old hr h
  rw [e]
  intro x hx
  rcases List.mem_or_eq_of_mem_set hx with hx | rfl
  ·exact hf x hx
  ·exact joinL_tm (hf _ (List.getElem_mem hi)) hu
theorem tm_fine {l : List Upd} (hf : ∀ x ∈ l, Tm x) : Fine l := fun x hx => ⟨(hf x hx).wf, by have := (hf x hx).vlen; omega⟩
section
variable {base : Nat} {E : TypeId} {W0 W w' : World} {A M : Value} {na nm : Nat} {xa xm : List Value}
end
open Go.RowKit
def joinAll : List Upd → Option Upd := fun l => l.foldl (fun o u => some (match o with | none => u | some f => joinL f u)) none
theorem getL_iff {l : List Upd} (hr : Rising Upd.key l) (k : List UInt8) (x : Upd) : getL l k = some x ↔ x ∈ l ∧ x.key = k := by
 unfold getL
 constructor
 ·intro h
  have h1 := List.mem_of_find?_eq_some h
  have h2 := List.find?_some h
  exact ⟨h1, by simpa using h2⟩
 ·rintro ⟨h1, h2⟩
  cases hf : l.find? (fun u => u.key == k) with
  | none =>
   rw [List.find?_eq_none] at hf
   exact absurd h2 (by simpa using hf x h1)
  | some y =>
   have hy1 := List.mem_of_find?_eq_some hf
   have hy2 : y.key = k := by simpa using List.find?_some hf
   have : x = y := by
    obtain ⟨i, hi, rfl⟩ := List.getElem_of_mem h1
    obtain ⟨j, hj, rfl⟩ := List.getElem_of_mem hy1
    rcases Nat.lt_trichotomy i j with h | h | h
    ·have := hr.lt h hj
     rw [h2, hy2] at this
     rw [bl_irrefl] at this; exact absurd this (by simp)
    ·subst h; rfl
    ·have := hr.lt h hi
     rw [h2, hy2] at this
     rw [bl_irrefl] at this; exact absurd this (by simp)
   rw [this]
theorem getL_with {l : List Upd} (hr : Rising Upd.key l) (u : Upd) : getL (withL l u) u.key = some (match getL l u.key with | none => u | some f => joinL f u) := by
 rw [getL_iff (withL_rising hr u)]
 cases hh : hasKey Upd.key l u.key with
 | false =>
  rw [getL_none hh, withL_new hh]
  exact ⟨insU_mem.2 (Or.inl rfl), rfl⟩
 | true =>
  obtain ⟨i, hi, hk, e⟩ := withL_old hr hh
  have hg : getL l u.key = some l[i] := (getL_iff hr _ _).2 ⟨List.getElem_mem hi, hk⟩
  rw [hg, e]
  refine ⟨?_, joinL_key _ _⟩
  exact List.mem_set hi _
theorem getL_with_other {l : List Upd} (hr : Rising Upd.key l) (u : Upd) {k : List UInt8} (h : k ≠ u.key) : getL (withL l u) k = getL l k := by
 have key : ∀ x, getL (withL l u) k = some x ↔ getL l k = some x := by
  intro x
  rw [getL_iff (withL_rising hr u), getL_iff hr]
  cases hh : hasKey Upd.key l u.key with
  | false =>
   rw [withL_new hh, insU_mem]
   constructor
   ·rintro ⟨rfl | h1, h2⟩
    ·exact absurd h2.symm h
    ·exact ⟨h1, h2⟩
   ·rintro ⟨h1, h2⟩; exact ⟨Or.inr h1, h2⟩
  | true =>
   obtain ⟨i, hi, hk, e⟩ := withL_old hr hh
   rw [e]
   constructor
   ·rintro ⟨h1, h2⟩
    rcases List.mem_or_eq_of_mem_set h1 with h1 | rfl
    ·exact ⟨h1, h2⟩
    ·rw [joinL_key] at h2; exact absurd h2.symm h
   ·rintro ⟨h1, h2⟩
    refine ⟨?_, h2⟩
    obtain ⟨j, hj, rfl⟩ := List.getElem_of_mem h1
    have hij : i ≠ j := fun e => by subst e; exact h (h2.symm.trans hk)
    have hs : (l.set i (joinL l[i] u))[j]'(by rw [List.length_set]; exact hj) = l[j] := by rw [List.getElem_set_ne hij]
    rw [← hs]
    exact List.getElem_mem _
 cases hg : getL l k with
 | none =>
  cases hg2 : getL (withL l u) k with
  | none => rfl
  | some x => have := (key x).1 hg2; rw [hg] at this; exact absurd this (by simp)
 | some x => exact (key x).2 hg
theorem onL_there (v : List UInt8) (th : Bool) (u : Upd) : onL (if th then v else []) th u = onL v th u := by
 cases th with
 | true => rfl
 | false => unfold onL; simp
theorem numL_le8 (n : Nat) : numL (le (n % 18446744073709551616) 8) = n % 18446744073709551616 := by
 rw [numL_le, show (256 : Nat) ^ 8 = 18446744073709551616 from by decide]
 exact Nat.mod_mod _ _
theorem onL_join {f t : Upd} (hf : Tm f) (ht : Tm t) (v : List UInt8) (th : Bool) : onL v th (joinL f t) = onL (onL v th f).1 (onL v th f).2 t := by
 rcases ht.kind with h | h | h
 ·rw [joinL_not f t (by omega), onL_put _ _ t h, onL_put _ _ t h]
 ·rw [joinL_not f t (by omega), onL_del _ _ t h, onL_del _ _ t h]
 ·rcases hf.kind with k | k | k
  ·rw [onL_put v th f k]
   by_cases h8 : f.val.length = 8
   ·rw [joinL_num h k h8, onL_put _ _ _ rfl, onL_add8 _ t h h8]
   ·rw [joinL_one h k h8, onL_put _ _ _ rfl, onL_add _ t h h8]
  ·rw [onL_del v th f k, joinL_two h k, onL_put _ _ _ rfl, onL_add0 _ t h]
  ·rw [joinL_add f t h k]
   cases th with
   | false =>
    rw [onL_add0 _ _ rfl, onL_add0 _ f k, onL_add8 _ t h (le_length _ _), numL_le8]
    simp only [Prod.mk.injEq, and_true]
    congr 1
    omega
   | true =>
    by_cases h8 : v.length = 8
    ·rw [onL_add8 _ _ rfl h8, onL_add8 _ f k h8, onL_add8 _ t h (le_length _ _), numL_le8]
     simp only [Prod.mk.injEq, and_true]
     congr 1
     omega
    ·rw [onL_add _ _ rfl h8, onL_add _ f k h8, onL_add _ t h h8]
open Go.RowKit
attribute [local go_sem ↓] Go.wp_at_zero Go.wp_at_succ
end Go.Proofs.YtafciefjlkdecaaGreat
namespace Go.Proofs.YtafciefjlkdecaaGreat.PlanL
def right (F B L : Int) : Bool := decide (3 ≤ F ∧ F ≤ 16 ∧ F ≤ B ∧ B ≤ 64 ∧ 2 ≤ L ∧ L ≤ 64)
def room (n : Int) : Int := if 128 ≤ n ∧ n ≤ 1024 then n - 24 else 0
def nodeBytes (F B L : Int) : Int := if right F B L = true then 1 + 33 * F + 51 * B else 0
def least (F B L : Int) : Int := if right F B L = true then B / F else 0
def check (F B L n : Int) : Int :=
 if right F B L = false ∨ n < 128 ∨ 1024 < n then 2
 else if n - 24 < 1 + 33 * F + 51 * B ∨ n - 24 < 50 * L then 20 else 0
theorem right_iff (F B L : Int) : right F B L = true ↔ (3 ≤ F ∧ F ≤ 16 ∧ F ≤ B ∧ B ≤ 64 ∧ 2 ≤ L ∧ L ≤ 64) := by simp [right]
theorem right_not (F B L : Int) : right F B L = false ↔ ¬ (3 ≤ F ∧ F ≤ 16 ∧ F ≤ B ∧ B ≤ 64 ∧ 2 ≤ L ∧ L ≤ 64) := by
 unfold right; exact decide_eq_false_iff_not
end Go.Proofs.YtafciefjlkdecaaGreat.PlanL
namespace Go.Proofs.YtafciefjlkdecaaGreat
open Go.RowKit
theorem planRight_any (F B L : Int) (w : World) :
  Calls Tryz.prog 42 #[.agg #[.int .i64 F, .int .i64 B, .int .i64 L]] w fun e w' => e = .returned (.bool (PlanL.right F B L)) ∧ Below w.heap.size w w' := by
 go_enter Tryz.func42, Tryz.ntmps42
 go_wp2
 all_goals (go_ret; exact ⟨ret_bool (by first | exact ((PlanL.right_iff F B L).2 (by omega)).symm | exact ((PlanL.right_not F B L).2 (by omega)).symm | (by_cases h : L ≤ 64 <;> simp [PlanL.right, h] <;> omega)), by go_grown⟩)
theorem nodeBytes_any (F B L : Int) (w : World) :
  Calls Tryz.prog 35 #[.agg #[.int .i64 F, .int .i64 B, .int .i64 L]] w fun e w' => e = .returned (.int .i64 (PlanL.nodeBytes F B L)) ∧ Below w.heap.size w w' := by
 by_cases h : PlanL.right F B L = true
 ·have hn : PlanL.nodeBytes F B L = 1 + 33 * F + 51 * B := by rw [PlanL.nodeBytes, if_pos h]
  rw [hn]; clear hn
  obtain ⟨h1, h2, h3, h4, h5, h6⟩ := (PlanL.right_iff F B L).1 h
  go_enter Tryz.func35, Tryz.ntmps35
  go_wp2_with (go_at_call 42; refine (thread (planRight_any _ _ _ _) w.heap.size w (by go_grown) (by go_grown)).mono ?_; rintro e w1 ⟨rfl, hB1, hc1, hf1, hs1, hz1⟩)
  go_ret
  exact ⟨ret_int (by omega), by go_grown⟩
 ·have hr : PlanL.right F B L = false := by simpa using h
  have hn : PlanL.nodeBytes F B L = 0 := by rw [PlanL.nodeBytes, if_neg h]
  rw [hn]; clear hn h
  go_enter Tryz.func35, Tryz.ntmps35
  go_wp2_with (go_at_call 42; refine (thread (planRight_any _ _ _ _) w.heap.size w (by go_grown) (by go_grown)).mono ?_; rintro e w1 ⟨rfl, hB1, hc1, hf1, hs1, hz1⟩)
  go_ret
  exact ⟨ret_int (by first | rfl | omega), by go_grown⟩
theorem least_any (F B L : Int) (w : World) :
  Calls Tryz.prog 16 #[.agg #[.int .i64 F, .int .i64 B, .int .i64 L]] w fun e w' => e = .returned (.int .i64 (PlanL.least F B L)) ∧ Below w.heap.size w w' := by
 by_cases h : PlanL.right F B L = true
 ·have hn : PlanL.least F B L = B / F := by rw [PlanL.least, if_pos h]
  rw [hn]; clear hn
  obtain ⟨h1, h2, h3, h4, h5, h6⟩ := (PlanL.right_iff F B L).1 h
  go_enter Tryz.func16, Tryz.ntmps16
  go_wp2_with (go_at_call 42; refine (thread (planRight_any _ _ _ _) w.heap.size w (by go_grown) (by go_grown)).mono ?_; rintro e w1 ⟨rfl, hB1, hc1, hf1, hs1, hz1⟩)
  go_ret
  exact ⟨ret_int (by first | rfl | omega), by go_grown⟩
 ·have hr : PlanL.right F B L = false := by simpa using h
  have hn : PlanL.least F B L = 0 := by rw [PlanL.least, if_neg h]
  rw [hn]; clear hn h
  go_enter Tryz.func16, Tryz.ntmps16
  go_wp2_with (go_at_call 42; refine (thread (planRight_any _ _ _ _) w.heap.size w (by go_grown) (by go_grown)).mono ?_; rintro e w1 ⟨rfl, hB1, hc1, hf1, hs1, hz1⟩)
  go_ret
  exact ⟨ret_int (by first | rfl | omega), by go_grown⟩
open Go.RowKit
attribute [local go_sem ↓] Go.wp_at_zero Go.wp_at_succ
theorem fetch_in {b : Nat} {kn : Bool} {pa : Int} {pg ps : Nat} {lf cs us ks : Value} (tv : Value) (h : Int) (w : World) (hv : VxAt w b kn pa pg ps true lf cs us ks) :
  Calls Tryz.prog 50 #[tv, .pointer (some ⟨b, 0, none⟩), .int .i64 h] w fun e w' => e = .returned (.tuple #[.pointer (some ⟨b, 0, none⟩), .bool false, .int .i64 0]) ∧ Below w.heap.size w w' := by
 have c4 := hv.c4
 go_enter Tryz.func50, Tryz.ntmps50
 go_wp2_with fail
 go_returns
 exact ⟨rfl, by go_grown⟩
structure LoadIs (fid : FuncId) (xs ys : Array Value) (pa : Int) (pg ps : Nat) (k : Nat) (pay : List UInt8) (er : Int) (w : World) : Prop where
 ent : ∀ args w, (callFunc fid args).run Tryz.prog w = .ok (.enter fid args) w
 go : ∀ w1, Below w.heap.size w w1 → Calls Tryz.prog fid (xs ++ #[.agg #[.int .i64 pa, .int .u64 pg, .int .u32 ps]] ++ ys) w1 fun e w2 => e = .returned (.tuple #[.int .u8 k, .string (S pay), .int .i64 er]) ∧ Below w1.heap.size w1 w2
theorem SlAt.setAtS {α : Type} {enc : α → List Value} {k : Nat} {w : World} {ao : Option Addr} {l : List α} (h : SlAt enc k w ao l) {p : Addr} {a : Option Addr} {n c : Nat} (hp : w.cell? p = some (.slice a n c)) (hne : ∀ x ∈ l, Value.slice a n c ∉ enc x) (u : Value) : SlAt enc k (w.setCell p u) ao l := by
 rcases h with rfl | ⟨b, off, rfl, hb, hc⟩
 ·exact Or.inl rfl
 ·refine Or.inr ⟨b, off, rfl, by rw [World.size_setCell]; exact hb, fun i hi j x hx => ?_⟩
  have hcell := hc i hi j x hx
  rw [World.cell?_setCell_other]
  ·exact hcell
  ·intro e
   rw [← e, hp] at hcell
   have hxe : x = .slice a n c := (Option.some.inj hcell).symm
   subst hxe
   exact hne _ (List.getElem_mem hi) (List.mem_of_getElem? hx)
theorem BoxE.setAt {w : World} {v : Value} {l : List Ent} (h : BoxE w v l) {p : Addr} {a : Option Addr} {n c : Nat} (hp : w.cell? p = some (.slice a n c)) (u : Value) : BoxE (w.setCell p u) v l := by
 obtain ⟨s, rfl, ao, c', rfl, hs, h1, h2, h3⟩ := h
 exact ⟨_, rfl, ao, c', rfl, hs.setAtS hp (fun x _ => by simp [Ent.cells]) u, h1, h2, h3⟩
theorem fetch_leaf {tb b : Nat} {F B L : Int} {fid : FuncId} {xs ys : Array Value} {root : Nat} {h' : Int} {gone : Value} {fl le : Int} {kn : Bool} {pa : Int} {pg ps : Nat} {lf cs us ks : Value} (k : Nat) (pay : List UInt8) (h : Int) (w : World)
  (ht : TrAt w tb F B L (.func (.func fid) xs ys) root h' gone fl le) (hv : VxAt w b kn pa pg ps false lf cs us ks) (hl : LoadIs fid xs ys pa pg ps k pay 0 w) (hk : k = 4) (hh : h = 1) (hp : pay.length ≤ 100000) (n : Nat) (es : List Ent) (hpe : parseE pay = (es, n)) :
  Calls Tryz.prog 50 #[.pointer (some ⟨tb, 0, none⟩), .pointer (some ⟨b, 0, none⟩), .int .i64 h] w fun e w' => ((n = 0 ∧ ∃ b' a c, e = .returned (.tuple #[.pointer (some ⟨b', 0, none⟩), .bool true, .int .i64 0]) ∧ w.heap.size ≤ b' ∧ VxAt w' b' true pa pg ps true (.slice a es.length c) (.slice none 0 0) (.slice none 0 0) (.slice none 0 0) ∧ BoxE w' (.agg #[.slice a es.length c]) es) ∨ (n ≠ 0 ∧ e = .returned (.tuple #[.pointer none, .bool false, .int .i64 10]))) ∧ Below w.heap.size w w' := by
 subst hk hh
 have HP := Lib.hid (fun w' => leafParse_any pay (by omega) w')
 rw [hpe] at HP
 clear hpe
 have c4 := hv.c4
 have c1 := hv.c1
 have c2 := hv.c2
 have c3 := hv.c3
 have t3 := ht.c3
 have hent := hl.ent
 go_enter Tryz.func50, Tryz.ntmps50
 go_upto_region 3 with (fail)
 go_cut [9, 10, 11] (fun s9 s10 s11 wx => s9 = .int .u8 (4 : Nat) ∧ s10 = .string (S pay) ∧ s11 = .int .i64 0 ∧ Below w.heap.size w wx)
 case first =>
  go_region_law (first | (go_simp; go_at_fn fid; refine (hl.go _ (below_drew' (Below.refl _ _))).mono ?_; rintro e w2 ⟨rfl, hX⟩))
  all_goals
   have hX2 := (below_drew' (Below.refl w.heap.size w)).trans hX
   go_wp2_with fail
   go_meet
   exact ⟨rfl, rfl, rfl, hX2⟩
 case rest =>
 obtain ⟨rfl, rfl, rfl, hX2⟩ := hcut
 obtain ⟨w2, hw2⟩ : ∃ w2, w2 = wc := ⟨_, rfl⟩
 subst hw2
 replace c1 := kept_cell hX2 c1
 replace c2 := kept_cell hX2 c2
 replace c3 := kept_cell hX2 c3
 have hz := hX2.size
 have HX2 := Lib.hid hX2
 clear hX2 hl
 go_upto_region 8 with (fail)
 obtain ⟨W, hW⟩ : ∃ W, W = w2.alloc (.cells (vxCells true pa pg ps true (.slice none 0 0) (.slice none 0 0) (.slice none 0 0) (.slice none 0 0)).toArray 108) := ⟨_, rfl⟩
 have hV : VxAt W w2.heap.size true pa pg ps true (.slice none 0 0) (.slice none 0 0) (.slice none 0 0) (.slice none 0 0) := ⟨by rw [hW]; exact RowIs.new _ _ _⟩
 have hX3 : Below w.heap.size w W := by rw [hW]; exact HX2.out.alloc hz _
 have e0 : w2.alloc (.cells #[.bool true, .int .i64 pa, .int .u64 pg, .int .u32 ps, .bool true, .slice none 0 0, .slice none 0 0, .slice none 0 0, .slice none 0 0] 108) = W := hW.symm
 rw [e0]
 clear e0 hW HX2 c1 c2 c3
 go_wp2_with fail
 refine (thread (HP.out W) W.heap.size W (Below.refl _ _) (Nat.le_refl _)).mono ?_
 rintro e w4 ⟨⟨a, c, rfl, hown⟩, hX4, -, -, -, hz4⟩
 dsimp only at hown ⊢
 have hV4 := hV.on hX4
 have v5 := hV4.c5
 have vf := hV4.fz 5
 have hB4 := Lib.hid (BoxE.of_own hown)
 have hLB := Lib.hid (hX3.trans (hX4.mono hX3.size))
 have hzw := hLB.out.size
 by_cases hn : n = 0
 ·have hn' : ((n : Int) != 0) = false := by simp; omega
  go_wp2_with fail
  go_returns
  refine ⟨Or.inl ⟨hn, _, a, c, rfl, hz, hV4.putL _, hB4.out.setAt v5 _⟩, hLB.out.setCell (p := ⟨w2.heap.size, 5, none⟩) hz _⟩
 ·have hn' : ((n : Int) != 0) = true := by simp; omega
  go_wp2_with fail
  go_returns
  exact ⟨Or.inr ⟨hn, rfl⟩, hLB.out.setCell (p := ⟨w2.heap.size, 5, none⟩) hz _⟩
open Go.RowKit
structure Chd where
 low : List UInt8
 addr : Int
 gen : Nat
 sum : Nat
def Chd.cells (c : Chd) : List Value := [.string (S c.low), .int .i64 c.addr, .int .u64 c.gen, .int .u32 c.sum]
structure Chd.Wf (c : Chd) : Prop where
 addr : -9223372036854775808 ≤ c.addr ∧ c.addr ≤ 9223372036854775807
 gen : c.gen < 18446744073709551616
 sum : c.sum < 4294967296
theorem infoC : (Tryz.prog.info? 179).map (fun i => (i.zero, i.size, i.bytes)) = some (some (.agg #[.string ByteArray.empty, .int .i64 0, .int .u64 0, .int .u32 0]), 4, 40) := by kernel_rfl
def cellsC (l : List Chd) : List Value := l.flatMap Chd.cells
theorem cellsC_len : ∀ l : List Chd, (cellsC l).length = l.length * 4
 | [] => rfl
 | u :: l => by
  have := cellsC_len l
  simp only [cellsC, List.flatMap_cons, List.length_append, List.length_cons] at *
  rw [this]
  simp [Chd.cells]; omega
theorem cellsC_append (a b : List Chd) : cellsC (a ++ b) = cellsC a ++ cellsC b := by simp [cellsC]
theorem cellsC_one (u : Chd) : cellsC [u] = Chd.cells u := by simp [cellsC]
theorem cellsC_oneCell (l : List Chd) : ∀ v ∈ cellsC l, v.oneCell' = true := by
 intro v hv
 simp only [cellsC, List.mem_flatMap] at hv
 obtain ⟨u, -, hv⟩ := hv
 simp only [Chd.cells, List.mem_cons, List.not_mem_nil, or_false] at hv
 rcases hv with rfl | rfl | rfl | rfl <;> rfl
theorem cellsC_get : ∀ (l : List Chd) (i : Nat) (hi : i < l.length) (j : Nat) (x : Value), (Chd.cells l[i])[j]? = some x → (cellsC l)[i * 4 + j]? = some x
 | [], i, hi, _, _, _ => by simp at hi
 | u :: l, 0, _, j, x, hx => by
  have hj : j < (Chd.cells u).length := (List.getElem?_eq_some_iff.1 hx).1
  simp only [cellsC, List.flatMap_cons, Nat.zero_mul, Nat.zero_add]
  rw [List.getElem?_append_left hj]; exact hx
 | u :: l, i + 1, hi, j, x, hx => by
  have := cellsC_get l i (by simpa using hi) j x (by simpa using hx)
  have hu : (Chd.cells u).length = 4 := rfl
  simp only [cellsC, List.flatMap_cons] at *
  rw [List.getElem?_append_right (by rw [hu]; omega), hu, show (i + 1) * 4 + j - 4 = i * 4 + j by omega]
  exact this
structure SlC (w : World) (v : Value) (l : List Chd) : Prop where
 form : ∃ ao c, v = .slice ao l.length c ∧ SlAt Chd.cells 4 w ao l ∧ l.length ≤ c ∧ (c : Int) ≤ 9223372036854775807 ∧ (ao = none → c = 0)
theorem SlC.nil (w : World) : SlC w (.slice none 0 0) [] := ⟨none, 0, rfl, Or.inl rfl, Nat.le_refl _, by omega, fun _ => rfl⟩
theorem SlC.kept {w w' : World} {v : Value} {l : List Chd} {B : Nat} (h : SlC w v l) (hb : Below B w w') (hB : w.heap.size ≤ B) : SlC w' v l := by
 obtain ⟨ao, c, rfl, h1, h2⟩ := h
 exact ⟨ao, c, rfl, h1.kept hb hB, h2⟩
theorem SlAt.cellsC {w : World} {b off : Nat} {l : List Chd} (h : ∀ (i : Nat) (hi : i < l.length) (j : Nat) (x : Value), (Chd.cells l[i])[j]? = some x → w.cell? ⟨b, off + i * 4 + j, none⟩ = some x) :
  ∀ j x, (cellsC l)[j]? = some x → w.cell? ⟨b, off + j, none⟩ = some x := by
 intro j x hx
 have hj := (List.getElem?_eq_some_iff.1 hx).1
 rw [cellsC_len] at hj
 have hi : j / 4 < l.length := by omega
 have hr : j % 4 < (Chd.cells l[j / 4]).length := Nat.mod_lt _ (by decide)
 have e := cellsC_get l (j / 4) hi (j % 4) _ (List.getElem?_eq_getElem hr)
 rw [show j / 4 * 4 + j % 4 = j by omega] at e
 rw [hx] at e
 have := h (j / 4) hi (j % 4) x (by rw [List.getElem?_eq_getElem hr, ← e])
 rw [show off + j / 4 * 4 + j % 4 = off + j by omega] at this
 exact this
theorem SlC.of_own {w : World} {B n : Nat} {v : Value} {l : List Chd} (h : w.ownsRow B 179 4 v n (cellsC l)) : l.length = n ∧ SlC w v l := by
 have hn : l.length = n := by have := h.1; rw [cellsC_len] at this; omega
 refine ⟨hn, ?_⟩
 subst hn
 rcases ownsRow_open h with ⟨rfl, h0, -⟩ | ⟨g, cap, cur, rfl, -, hr, h3, h4, h5, h6⟩
 ·obtain rfl := List.eq_nil_of_length_eq_zero h0
  exact SlC.nil w
 ·refine ⟨_, cap, rfl, Or.inr ⟨g, 0, rfl, hr.lt, fun i hi j x hx => ?_⟩, h3, by unfold maxLen at h4; omega, fun e => by simp at e⟩
  have hj : j < 4 := (List.getElem?_eq_some_iff.1 hx).1
  have e := cellsC_get l i hi j x hx
  rw [hr.cell, Nat.zero_add, ← e, ← h6, List.getElem?_take, if_pos (by omega)]
theorem cloneC (v : Value) (l : List Chd) (w : World) (h : SlC w v l) (hl : l.length ≤ 1000000) :
  Calls Tryz.prog 107 #[v] w fun e w' => (∃ v', e = .returned v' ∧ w'.ownsRow w.heap.size 179 4 v' l.length (cellsC l)) ∧ Below w.heap.size w w' := by
 obtain ⟨ao, c, rfl, hs, hc1, hc2, hn⟩ := h
 have hnil := fun (w : World) a n c n' c' => Lib.run_eql_slice_nil (P := Tryz.prog) w 100 179 a n c n' c' Tryz.underlying100
 obtain ⟨i0, hi, hz0, hz1, hz2⟩ := info_parts infoC
 cases ao with
 | none =>
  obtain rfl := hn rfl
  obtain rfl : l = [] := List.eq_nil_of_length_eq_zero (by omega)
  go_enter Tryz.func107, Tryz.ntmps107
  go_wp2_with fail
  go_ret
  exact ⟨⟨_, rfl, World.ownsRow_nil _ _ _ _⟩, Below.refl _ _⟩
 | some a =>
  have hown := World.ownsRow_made (e := 179) (size := 4) (base := w.heap.size) w #[] 0 (Nat.le_refl _) (by unfold maxLen; omega) rfl
  have hnews : ∀ j u, (cellsC l)[j]? = some u → (w.alloc (.cells #[] 179)).cell? (a.add j) = some u := by
   intro j u hu
   have hj := (List.getElem?_eq_some_iff.1 hu).1
   rw [cellsC_len] at hj
   obtain ⟨b, off, e, hb, hc⟩ := hs.at (by omega)
   obtain rfl : a = ⟨b, off, none⟩ := by simpa using e
   rw [show (⟨b, off, none⟩ : Addr).add j = ⟨b, off + j, none⟩ by simp [Addr.add]]
   exact cell_past _ (SlAt.cellsC hc j u hu)
  have hcl := cellsC_len l
  clear hs
  go_enter Tryz.func107, Tryz.ntmps107
  go_wp2_with (at_builtin; refine wpList_append_own_at _ rfl _ _ 100 rfl w.heap.size 179 i0 (.agg #[.string ByteArray.empty, .int .i64 0, .int .u64 0, .int .u32 0]) 4 40 Tryz.underlying100 hi hz0 hz1 hz2 rfl (by decide) _ 0 [] rfl hown a l.length c (cellsC l) rfl hcl hnews (cellsC_oneCell l) (by unfold maxLen; omega) (by omega) (by simp) ?_; intro v' w1 hown' hgrow hnil' hat)
  go_ret
  rw [Nat.zero_add, List.nil_append] at hown'
  exact ⟨⟨_, rfl, hown'⟩, below_grown_new hgrow fun k e => Nat.le_of_eq (Option.some.inj e)⟩
theorem SlAt.cells4C {w : World} {ao : Option Addr} {l : List Chd} (hs : SlAt Chd.cells 4 w ao l) (i : Nat) (hi : i < l.length) :
  ∃ b off, ao = some ⟨b, off, none⟩ ∧ b < w.heap.size ∧ w.cell? ⟨b, off + i * 4, none⟩ = some (.string (S l[i].low)) ∧ w.cell? ⟨b, off + i * 4 + 1, none⟩ = some (.int .i64 l[i].addr) ∧ w.cell? ⟨b, off + i * 4 + 2, none⟩ = some (.int .u64 l[i].gen) ∧ w.cell? ⟨b, off + i * 4 + 3, none⟩ = some (.int .u32 l[i].sum) := by
 obtain ⟨b, off, rfl, hb, hc⟩ := hs.at (by omega)
 refine ⟨b, off, rfl, hb, ?_, hc i hi 1 _ rfl, hc i hi 2 _ rfl, hc i hi 3 _ rfl⟩
 have := hc i hi 0 _ rfl
 rwa [Nat.add_zero] at this
theorem SlC.at {w : World} {a : Option Addr} {n c : Nat} {l : List Chd} (h : SlC w (.slice a n c) l) : SlAt Chd.cells 4 w a l := by
 obtain ⟨x, y, e, h2, -⟩ := h
 simp only [Value.slice.injEq] at e
 obtain ⟨rfl, -, rfl⟩ := e
 exact h2
theorem slC_row {w : World} {B n : Nat} {E : TypeId} {v : Value} {l : List Chd} (h : w.ownsRow B E 4 v n (cellsC l)) : l.length = n ∧ SlC w v l := by
 have hn := h.1
 rw [cellsC_len] at hn
 have hn' : l.length = n := by omega
 subst hn'
 refine ⟨rfl, ?_⟩
 rcases ownsRow_open h with ⟨rfl, h0, -⟩ | ⟨g, cap, cur, rfl, -, hr, h3, h4, h5, h6⟩
 ·obtain rfl := List.eq_nil_of_length_eq_zero h0
  exact SlC.nil w
 ·refine ⟨_, cap, rfl, Or.inr ⟨g, 0, rfl, hr.lt, fun i hi j x hx => ?_⟩, h3, by unfold maxLen at h4; omega, fun e => by simp at e⟩
  have hj : j < 4 := (List.getElem?_eq_some_iff.1 hx).1
  have e := cellsC_get l i hi j x hx
  rw [hr.cell, Nat.zero_add, ← e, ← h6, List.getElem?_take, if_pos (by omega)]
end Go.Proofs.YtafciefjlkdecaaGreat
