/-
  The walks of layer 29: New, Sync, Len, Now, Add of a history.
-/
import Derived.Test.YthcjcmalfnfjkaaMof
import Derived.Deep.RegionLawGrows
namespace Go.Proofs.Ythcjcmalfnfjkaa
open Go.RowKit Go.Maps Go.WideShapes Go.Shelf
set_option linter.unusedVariables false
attribute [local go_sem ↓] Go.wp_at_zero Go.wp_at_succ

/-- A history in block h: its row, its model; all its blocks are of S. -/
structure HisAt (w : World) (S : Nat → Prop) (h : Nat) (a : Option Addr) (c p b : Nat) (all : List Upd) (last : Nat) : Prop where
  c0 : w.cell? ⟨h, 0, none⟩ = some (.slice a all.length c)
  c1 : w.cell? ⟨h, 1, none⟩ = some (.int .i64 (last : Nat))
  c2 : w.cell? ⟨h, 2, none⟩ = some (.pointer (some ⟨p, 0, none⟩))
  fr : ∀ o, w.frozen? ⟨h, o, none⟩ = false
  own : w.ownsRow 0 36 4 (.slice a all.length c) all.length (cellsU all)
  off : (Value.slice a all.length c).ownBlock ≠ some h ∧ (Value.slice a all.length c).ownBlock ≠ some p
  mod : ModAt w p b (onAll [] all)
  ne : p ≠ h
  sh : S h
  sp : S p
  sb : S b
  sr : ∀ i, (Value.slice a all.length c).ownBlock = some i → S i
  lt : ∀ i, S i → i < w.heap.size
  wf : ∀ u ∈ all, u.Wf ∧ u.check = 0
  le : last ≤ all.length
  len : all.length ≤ 1000
/-- What lies outside of S stands as it stood. -/
structure Off (S : Nat → Prop) (w w' : World) : Prop where
  os : w'.os = w.os
  tape : w'.tape = w.tape
  output : w'.output = w.output
  size : w.heap.size ≤ w'.heap.size
  block : ∀ i, i < w.heap.size → ¬ S i → w'.heap[i]? = w.heap[i]?
theorem Off.refl (S : Nat → Prop) (w : World) : Off S w w := ⟨rfl, rfl, rfl, Nat.le_refl _, fun _ _ _ => rfl⟩
theorem Off.of_below {S : Nat → Prop} {w w' : World} (h : Below w.heap.size w w') : Off S w w' := ⟨h.os, h.tape, h.output, h.size, fun i hi _ => h.block i hi⟩
theorem Off.of_grown {S : Nat → Prop} {w w' : World} {row : Option Nat} (h : w.grownBy w' row) (hs : ∀ i, row = some i → S i) : Off S w w' := ⟨h.os, h.tape, h.output, h.size, fun i hi hn => h.block i hi (fun e => hn (hs i e.symm))⟩
theorem Off.trans {S S' : Nat → Prop} {a b c : World} (h : Off S a b) (k : Off S' b c) (hs : ∀ i, S' i → S i ∨ a.heap.size ≤ i) : Off S a c :=
  ⟨k.os.trans h.os, k.tape.trans h.tape, k.output.trans h.output, Nat.le_trans h.size k.size, fun i hi hn => (k.block i (Nat.lt_of_lt_of_le hi h.size) (fun e => by rcases hs i e with h1 | h1; exact hn h1; omega)).trans (h.block i hi hn)⟩
theorem Off.setCell {S : Nat → Prop} (w : World) {h o : Nat} (hs : S h) (v : Value) : Off S w (w.setCell ⟨h, o, none⟩ v) :=
  ⟨rfl, rfl, rfl, by simp, fun i hi hn => Below.heap_setCell _ _ _ _ (fun e => hn (by simp at e; rw [e]; exact hs))⟩
theorem Off.below {S : Nat → Prop} {w w' w0 : World} {B : Nat} (h : Off S w w') (hb : Below B w0 w) (hs : ∀ i, S i → B ≤ i) (hB : B ≤ w.heap.size) : Below B w0 w' :=
  ⟨h.os.trans hb.os, h.tape.trans hb.tape, h.output.trans hb.output, Nat.le_trans hb.size h.size, fun i hi => (h.block i (by omega) (fun e => by have := hs i e; omega)).trans (hb.block i hi)⟩
theorem Off.cell {S : Nat → Prop} {w w' : World} (h : Off S w w') {b o : Nat} {v : Value} (hc : w.cell? ⟨b, o, none⟩ = some v) (hn : ¬ S b) : w'.cell? ⟨b, o, none⟩ = some v :=
  (World.cell?_of_block (w := w) (h.block b (cell_lt hc) hn)).trans hc
theorem HisAt.below {w w' : World} {S : Nat → Prop} {h : Nat} {a : Option Addr} {c p b : Nat} {all : List Upd} {last : Nat} (H : HisAt w S h a c p b all last) (hb : Below w.heap.size w w') : HisAt w' S h a c p b all last :=
  ⟨kept_cell hb H.c0, kept_cell hb H.c1, kept_cell hb H.c2, fun o => ((bcell hb).2 h o (cell_lt H.c0)).trans (H.fr o), own_below H.own hb, H.off, H.mod.below hb, H.ne, H.sh, H.sp, H.sb, H.sr, fun i hi => Nat.lt_of_lt_of_le (H.lt i hi) hb.size, H.wf, H.le, H.len⟩
theorem HisAt.drew {w : World} {S : Nat → Prop} {h : Nat} {a : Option Addr} {c p b : Nat} {all : List Upd} {last : Nat} (H : HisAt w S h a c p b all last) : HisAt w.drew S h a c p b all last := H.below (below_drew' (Below.refl _ _))
/-- .. as long as its own blocks stand. -/
theorem HisAt.off_kept {w w' : World} {S S' : Nat → Prop} {h : Nat} {a : Option Addr} {c p b : Nat} {all : List Upd} {last : Nat} (H : HisAt w S h a c p b all last) (ho : Off S' w w') (hs : ∀ i, S i → ¬ S' i) : HisAt w' S h a c p b all last := by
  have hg : w.grownBy w' none → False ∨ True := fun _ => Or.inr trivial
  have hh := ho.block h (H.lt h H.sh) (hs h H.sh)
  refine ⟨(World.cell?_of_block (w := w) hh).trans H.c0, (World.cell?_of_block (w := w) hh).trans H.c1, (World.cell?_of_block (w := w) hh).trans H.c2, fun o => (World.frozen?_of_block (w := w) hh).trans (H.fr o), ?_, H.off, ?_, H.ne, H.sh, H.sp, H.sb, H.sr, fun i hi => Nat.lt_of_lt_of_le (H.lt i hi) ho.size, H.wf, H.le, H.len⟩
  · obtain ⟨h1, h2⟩ := H.own
    refine ⟨h1, ?_⟩
    rcases h2 with h2 | ⟨g, cap, cur, hv, h3, h4, h5⟩
    · exact Or.inl h2
    · refine Or.inr ⟨g, cap, cur, hv, h3, (ho.block g (H.lt g (H.sr g (by rw [hv]; rfl))) (hs g (H.sr g (by rw [hv]; rfl)))).trans h4, h5⟩
  · refine ⟨(World.cell?_of_block (w := w) (ho.block p (H.lt p H.sp) (hs p H.sp))).trans H.mod.cell, ?_⟩
    obtain ⟨D, ⟨es, clock, hb, hr⟩, h2⟩ := H.mod.map.own
    exact ⟨⟨D, ⟨es, clock, (ho.block b (H.lt b H.sb) (hs b H.sb)).trans hb, hr⟩, h2⟩, H.mod.map.rise, H.mod.map.fine, H.mod.map.len⟩

set_option maxHeartbeats 1000000 in
theorem hisNew_any (w : World) : Calls Try.prog 10 #[] w fun e w' => e = .returned (.pointer (some ⟨w.heap.size + 2, 0, none⟩)) ∧ HisAt w' (fun i => w.heap.size ≤ i ∧ i < w.heap.size + 3) (w.heap.size + 2) none 0 (w.heap.size + 1) w.heap.size [] 0 ∧ Below w.heap.size w w' := by
  go_enter Try.func10, Try.ntmps10
  go_wp2_with fail
  refine (modNew_any w).mono ?_
  rintro e w1 ⟨rfl, hm, hB, hz⟩
  have HM := Lib.hid hm
  clear hm
  go_wp2_with fail
  have hX : Below w1.heap.size w1 (w1.alloc (.cells #[.slice none 0 0, .int .i64 0, .pointer (some ⟨w.heap.size + 1, 0, none⟩)] 85)) := by go_grown
  go_ret
  refine ⟨rfl, ?_, hB.trans (hX.mono (by omega))⟩
  rw [← hz]
  refine ⟨by simp, by simp, by simp, fun o => World.frozen?_alloc_at _ _ _ _ rfl, World.ownsRow_nil _ _ _ _, ⟨by simp [Value.ownBlock], by simp [Value.ownBlock]⟩, HM.out.below hX, by omega, by omega, by omega, by omega, fun i e => by simp [Value.ownBlock] at e, fun i hi => by simp; omega, fun u hu => by simp at hu, Nat.le_refl _, by simp⟩

set_option maxHeartbeats 1000000 in
theorem hisSync_any (S : Nat → Prop) (h : Nat) (a : Option Addr) (c p b : Nat) (all : List Upd) (last : Nat) (w : World) (H : HisAt w S h a c p b all last) :
    Calls Try.prog 12 #[.pointer (some ⟨h, 0, none⟩)] w fun e w' => e = .returned (.tuple #[]) ∧ HisAt w' S h a c p b all all.length ∧ Off S w w' := by
  have h0 := H.c0
  have h1 := H.c1
  have hf := H.fr 1
  have HH := Lib.hid H
  clear H
  go_enter Try.func12, Try.ntmps12
  go_wp2_with fail
  refine bodyPost_end (v := .tuple #[]) (by simp [results, Try.results12, go_sem]) rfl ?_
  refine ⟨rfl, ?_, Off.setCell w HH.out.sh _⟩
  obtain ⟨c0, c1, c2, fr, own, off, mod, ne, sh, sp, sb, sr, lt, wf, le, len⟩ := HH.out
  have hbh : b ≠ h := (mod.map.ne c0).symm
  exact ⟨(World.cell?_setCell_other _ _ _ _ (by intro e; simp at e)).trans c0, World.cell?_setCell_same _ _ _ c1, (World.cell?_setCell_other _ _ _ _ (by intro e; simp at e)).trans c2, fun o => by rw [World.frozen?_setCell]; exact fr o, ownsRow_setCell_other (a := ⟨h, 1, none⟩) own off.1 _, off, ⟨(World.cell?_setCell_other _ _ _ _ (by intro e; injection e with e1 e2; first | exact ne e1 | exact ne e1.symm)).trans mod.cell, mod.map.setCell hbh _⟩, ne, sh, sp, sb, sr, fun i hi => by simp; exact lt i hi, wf, Nat.le_refl _, len⟩

set_option maxHeartbeats 1000000 in
theorem hisLen_any (S : Nat → Prop) (h : Nat) (a : Option Addr) (c p b : Nat) (all : List Upd) (last : Nat) (w : World) (H : HisAt w S h a c p b all last) :
    Calls Try.prog 18 #[.pointer (some ⟨h, 0, none⟩)] w fun e w' => e = .returned (.tuple #[.int .i64 (all.length : Nat), .int .i64 (last : Nat)]) ∧ Below w.heap.size w w' := by
  have h0 := cell_drew H.c0
  have h1 := cell_drew H.c1
  clear H
  go_enter Try.func18, Try.ntmps18
  go_wp2_with fail
  go_region
  go_wp2_with fail
  refine bodyPost_ret (v := .tuple #[.int .i64 (all.length : Nat), .int .i64 (last : Nat)]) (by simp [results, Try.results18, go_sem]) rfl ⟨rfl, by go_grown⟩

set_option maxHeartbeats 1000000 in
theorem hisNow_any (S : Nat → Prop) (h : Nat) (a : Option Addr) (c p b : Nat) (all : List Upd) (last : Nat) (w : World) (H : HisAt w S h a c p b all last) :
    Calls Try.prog 19 #[.pointer (some ⟨h, 0, none⟩)] w fun e w' => (∃ p' b', e = .returned (.pointer (some ⟨p', 0, none⟩)) ∧ w.heap.size ≤ p' ∧ w.heap.size ≤ b' ∧ ModAt w' p' b' (onAll [] all)) ∧ Below w.heap.size w w' := by
  have h2 := H.c2
  have HM := Lib.hid H.mod
  clear H
  go_enter Try.func19, Try.ntmps19
  go_wp2_with fail
  refine (modCopy_any p b _ w HM.out).mono ?_
  rintro e w1 ⟨⟨p', b', rfl, g1, g2, g3⟩, hB⟩
  have HG := Lib.hid g3
  clear g3
  go_wp2_with fail
  go_ret
  exact ⟨⟨p', b', rfl, g1, g2, HG.out⟩, hB⟩

end Go.Proofs.Ythcjcmalfnfjkaa
