/-
  The walk of a history's Add.
-/
import Derived.Test.YthcjcmalfnfjkaaHis
namespace Go.Proofs.Ythcjcmalfnfjkaa
open Go.RowKit Go.Maps Go.WideShapes Go.Shelf
set_option linter.unusedVariables false
attribute [local go_sem ↓] Go.wp_at_zero Go.wp_at_succ

theorem errU_zero {l : List Ent} {u : Upd} (h : errU l u = 0) : u.check = 0 := by
  unfold errU at h
  by_cases hc : u.check = 0
  · exact hc
  · rw [if_pos hc] at h; exact h
theorem errU_same {l : List Ent} (hr : Rising Ent.key l) {u : Upd} (h : errU l u ≠ 0) : onE l u = l := by
  unfold errU at h
  by_cases hc : u.check = 0
  · rw [if_neg (by simp [hc])] at h
    split at h
    · rename_i h1
      exact onE_same hr u h1.1 h1.2.1 h1.2.2
    · exact absurd rfl h
  · unfold onE; rw [if_pos hc]
theorem cell_fourM (w : World) (b : Nat) (hb : w.heap.size = b) (x y z u : Value) (t : TypeId) : ∀ j v, [x, y, z, u][j]? = some v → (w.alloc (.cells #[x, y, z, u] t)).cell? ((⟨b, 0, none⟩ : Addr).add j) = some v := by
  subst hb
  intro j v hj
  match j, hj with
  | 0, hj => simp only [List.getElem?_cons_zero, Option.some.injEq] at hj; subst hj; simp [Addr.add]
  | 1, hj => simp only [List.getElem?_cons_succ, List.getElem?_cons_zero, Option.some.injEq] at hj; subst hj; simp [Addr.add]
  | 2, hj => simp only [List.getElem?_cons_succ, List.getElem?_cons_zero, Option.some.injEq] at hj; subst hj; simp [Addr.add]
  | 3, hj => simp only [List.getElem?_cons_succ, List.getElem?_cons_zero, Option.some.injEq] at hj; subst hj; simp [Addr.add]
  | j + 4, hj => simp at hj
theorem four_oneM (k : Nat) (x y : ByteArray) (d : Nat) : ∀ u ∈ [Value.int .u8 (k : Int), .string x, .string y, .int .u64 (d : Int)], u.oneCell' = true := by
  intro u hu
  simp only [List.mem_cons, List.not_mem_nil, or_false] at hu
  rcases hu with rfl | rfl | rfl | rfl <;> rfl
theorem cellsU_snocM (l : List Upd) (u : Upd) : cellsU (l ++ [u]) = cellsU l ++ [.int .u8 u.kind, .string (S u.key), .string (S u.val), .int .u64 u.delta] := by simp [cellsU, Upd.cells]

/-- What a call leaves of a history. -/
def HisNext (w w' : World) (S0 : Nat → Prop) (h p b : Nat) (all : List Upd) (last : Nat) : Prop := ∃ S' a' c', HisAt w' S' h a' c' p b all last ∧ ∀ i, S' i → S0 i ∨ w.heap.size ≤ i
/-- A history whose model has gone ahead of its row. -/
structure AheadAt (w : World) (S : Nat → Prop) (h : Nat) (a : Option Addr) (c p b : Nat) (all : List Upd) (l : List Ent) (last : Nat) : Prop where
  c0 : w.cell? ⟨h, 0, none⟩ = some (.slice a all.length c)
  c1 : w.cell? ⟨h, 1, none⟩ = some (.int .i64 (last : Nat))
  c2 : w.cell? ⟨h, 2, none⟩ = some (.pointer (some ⟨p, 0, none⟩))
  fr : ∀ o, w.frozen? ⟨h, o, none⟩ = false
  own : w.ownsRow 0 36 4 (.slice a all.length c) all.length (cellsU all)
  off : (Value.slice a all.length c).ownBlock ≠ some h ∧ (Value.slice a all.length c).ownBlock ≠ some p
  mod : ModAt w p b l
  ne : p ≠ h
theorem own_not_map {w : World} {b : Nat} {l : List Ent} {B : Nat} {E : TypeId} {k n : Nat} {v : Value} {xs : List Value} (hm : MapIs w b l) (ho : w.ownsRow B E k v n xs) : v.ownBlock ≠ some b := by
  intro e
  obtain ⟨D, ⟨es, clock, hb, _⟩, _⟩ := hm.own
  rcases ownsRow_open ho with ⟨rfl, -, -⟩ | ⟨g, cap, cur, rfl, -, hr, -⟩
  · simp [Value.ownBlock] at e
  · simp only [Value.ownBlock, Option.some.injEq] at e
    subst e
    have := hr.symm.trans hb
    simp at this
theorem own_not_map' {w : World} {b : Nat} {l : List Ent} {B : Nat} {E : TypeId} {k n : Nat} {v : Value} {xs : List Value} (hm : MapIs w b l) (ho : w.ownsRow B E k v n xs) : some b ≠ v.ownBlock := fun e => own_not_map hm ho e.symm
theorem HisAt.ahead {w w' : World} {S : Nat → Prop} {h : Nat} {a : Option Addr} {c p b : Nat} {all : List Upd} {last : Nat} (H : HisAt w S h a c p b all last) {l : List Ent} (hg : w.grownBy w' (some b)) (hm : ModAt w' p b l) : AheadAt w' S h a c p b all l last := by
  have hbh : some h ≠ some b := fun e => by injection e with e; exact H.mod.map.ne H.c0 e
  exact ⟨hg.cell H.c0 hbh, hg.cell H.c1 hbh, hg.cell H.c2 hbh, fun o => (World.frozen?_of_block (w := w) (hg.block h (cell_lt H.c0) hbh)).trans (H.fr o), H.own.kept hg (Or.inr (own_not_map H.mod.map H.own)), H.off, hm, H.ne⟩

set_option maxRecDepth 100000 in
set_option maxHeartbeats 8000000 in
theorem hisAdd_any (S0 : Nat → Prop) (h : Nat) (a : Option Addr) (c p b : Nat) (all : List Upd) (last : Nat) (u : Upd) (w : World) (H : HisAt w S0 h a c p b all last) (hu : u.Wf) (hlen : all.length < 1000) :
    Calls Try.prog 17 #[.pointer (some ⟨h, 0, none⟩), .agg #[.int .u8 u.kind, .string (S u.key), .string (S u.val), .int .u64 u.delta]] w fun e w' => e = .returned (.int .i64 (errU (onAll [] all) u : Nat)) ∧ HisNext w w' S0 h p b (if errU (onAll [] all) u = 0 then all ++ [u] else all) last ∧ Off S0 w w' := by
  obtain ⟨i0, hi0, iz0, iz1, iz2⟩ := info_parts infoU
  have HU := Lib.hid hu
  have HH := Lib.hid H
  have hz := H.lt h H.sh
  have hfit := (onAll_fit all).2.2
  clear H hu
  generalize hEN : errU (onAll [] all) u = EN at *
  have HE := Lib.hid hEN
  generalize hall : (if EN = 0 then all ++ [u] else all) = all' at *
  have HAL := Lib.hid hall
  clear hall
  clear hEN
  go_enter Try.func17, Try.ntmps17
  go_upto_region 1 with (fail)
  obtain ⟨W, hW⟩ : ∃ W, W = w.alloc (.cells #[.int .u8 u.kind, .string (S u.key), .string (S u.val), .int .u64 u.delta] 36) := ⟨_, rfl⟩
  rw [← hW]
  have hX : Below w.heap.size w W := by rw [hW]; go_grown
  have q0 : W.cell? ⟨w.heap.size, 0, none⟩ = some (.int .u8 u.kind) := by rw [hW]; simp
  have q1 : W.cell? ⟨w.heap.size, 1, none⟩ = some (.string (S u.key)) := by rw [hW]; simp
  have q2 : W.cell? ⟨w.heap.size, 2, none⟩ = some (.string (S u.val)) := by rw [hW]; simp
  have q3 : W.cell? ⟨w.heap.size, 3, none⟩ = some (.int .u64 u.delta) := by rw [hW]; simp
  have HH1 := Lib.hid (HH.out.below hX)
  have hWz : W.heap.size = w.heap.size + 1 := by rw [hW]; simp
  clear hW
  have HX := Lib.hid hX
  clear hX HH
  go_upto_region 3 with (fail)
  have d0 := cell_drew q0
  have d1 := cell_drew q1
  have d2 := cell_drew q2
  have d3 := cell_drew q3
  have c2 := cell_drew HH1.out.c2
  have HH2 := Lib.hid HH1.out.drew
  clear q0 q1 q2 q3
  go_region_with ((go_at_call 37; go_must (refine (modUp_upd p b _ u _ HH2.out.mod HU.out (by omega)).mono ?_; rintro e w2 ⟨rfl, hm2, hg2⟩; rw [HE.out]; have HM2 := Lib.hid hm2; have HG2 := Lib.hid hg2; clear hm2 hg2)))
  all_goals
    have HA := Lib.hid (HH2.out.ahead HG2.out HM2.out)
    have hbn : ¬ w.heap.size = b := HH2.out.mod.map.ne d0
    have hbs : some w.heap.size ≠ some b := fun e => hbn (by injection e)
    have e0 := HG2.out.cell d0 hbs
    have e1 := HG2.out.cell d1 hbs
    have e2 := HG2.out.cell d2 hbs
    have e3 := HG2.out.cell d3 hbs
    have HO := Lib.hid (show Off S0 w w2 from (Off.of_below (below_drew' HX.out)).trans (Off.of_grown HG2.out (fun i e => by injection e with e; rw [← e]; exact HH1.out.sb)) (fun i hi => Or.inl hi))
    have hz2 := HG2.out.size
    have hz2' : w.heap.size + 1 ≤ w2.heap.size := by simp at hz2; omega
    clear d0 d1 d2 d3 c2 hbn hbs hz2
    by_cases hE0 : EN = 0
    · subst hE0
      have HW' := Lib.hid (show u.Wf ∧ u.check = 0 from ⟨HU.out, errU_zero HE.out⟩)
      have HS := Lib.hid (show onAll [] (all ++ [u]) = onE (onAll [] all) u from onAll_snoc _ _ _)
      go_upto_region 6 with (fail)
      have hlt := HA.out.own
      have z0 := cell_drew HA.out.c0
      have x0 := cell_drew e0
      have x1 := cell_drew e1
      have x2 := cell_drew e2
      have x3 := cell_drew e3
      have z1 := cell_past (.cells #[.int .u8 u.kind, .string (S u.key), .string (S u.val), .int .u64 u.delta] 36) HA.out.c0
      have hB2 : Below w2.heap.size w2 (w2.alloc (.cells #[.int .u8 u.kind, .string (S u.key), .string (S u.val), .int .u64 u.delta] 36)).drew := by go_grown
      have HB2 := Lib.hid hB2
      have HOW := Lib.hid (own_below hlt hB2)
      have hoff : some h ≠ (Value.slice a all.length c).ownBlock := fun e => HA.out.off.1 e.symm
      clear e0 e1 e2 e3 hlt hB2
      go_region_law (first | (refine step_append_own (by rfl) _ _ 83 (by rfl) 0 36 i0 (.agg #[.int .u8 0, .string ByteArray.empty, .string ByteArray.empty, .int .u64 0]) 4 48 Try.underlying83 hi0 iz0 iz1 iz2 rfl (by decide) _ all.length _ (by rfl) HOW.out ⟨w2.heap.size, 0, none⟩ 1 1 [.int .u8 u.kind, .string (S u.key), .string (S u.val), .int .u64 u.delta] (by rfl) (by rfl) (fun j v h => cell_drew (cell_fourM _ _ (by simp) _ _ _ _ _ j v h)) (four_oneM _ _ _ _) (by unfold maxLen; omega) (by omega) (Nat.zero_le _) ?_; intro vz wz hownwz hgrowwz hbz; obtain ⟨gz, cz, ez⟩ := own_form hownwz; subst ez; have zc := hgrowwz.cell (cell_drew z1) hoff; have zf : wz.frozen? ⟨h, 0, none⟩ = false := (World.frozen?_of_block (hgrowwz.block h (by have := cell_lt z1; exact this) hoff)).trans (((bcell HB2.out).2 h 0 (cell_lt HA.out.c0)).trans (HA.out.fr 0))))
      all_goals
        have HZ := Lib.hid hownwz
        have HGZ := Lib.hid hgrowwz
        have HBZ := Lib.hid hbz
        clear hownwz hgrowwz hbz
        go_wp2_with fail
        go_ret
        have hh := HH1.out
        have ha := HA.out
        have hzz := HGZ.out.size
        have hzz1 : w2.heap.size + 1 ≤ wz.heap.size := by simpa using hzz
        have hhl := cell_lt ha.c0
        have hpl := ha.mod.ltp
        have hb1 : (Value.slice gz (all.length + 1) cz).ownBlock = (Value.slice a all.length c).ownBlock ∨ (Value.slice gz (all.length + 1) cz).ownBlock = some (w2.heap.size + 1) := by simpa using HBZ.out
        have hm1 := (ha.mod.map.below HB2.out).kept HGZ.out (own_not_map' (ha.mod.map.below HB2.out) HOW.out)
        have hbh : b ≠ h := (ha.mod.map.ne ha.c0).symm
        have hoffp : some p ≠ (Value.slice a all.length c).ownBlock := fun e => ha.off.2 e.symm
        have al : (all ++ [u]).length = all.length + 1 := by simp
        have ne0 : (⟨h, 0, none⟩ : Addr) ≠ ⟨h, 1, none⟩ := by intro e; injection e with e1 e2; exact absurd e2 (by decide)
        have ne1 : (⟨h, 0, none⟩ : Addr) ≠ ⟨h, 2, none⟩ := by intro e; injection e with e1 e2; exact absurd e2 (by decide)
        have ne2 : (⟨h, 0, none⟩ : Addr) ≠ ⟨p, 0, none⟩ := by intro e; injection e with e1 e2; exact ha.ne e1.symm
        refine ⟨rfl, ⟨fun i => S0 i ∨ (w.heap.size ≤ i ∧ i < wz.heap.size), gz, cz, ?_, fun i hi => hi.imp id (fun x => x.1)⟩, ?_⟩
        · rw [← HAL.out, if_pos trivial]
          refine ⟨?_, ?_, ?_, ?_, ?_, ?_, ?_, ha.ne, Or.inl hh.sh, Or.inl hh.sp, Or.inl hh.sb, ?_, ?_, ?_, ?_, ?_⟩
          · rw [al]; exact World.cell?_setCell_same _ _ _ zc
          · exact (World.cell?_setCell_other _ _ _ _ ne0).trans (HGZ.out.cell (kept_cell HB2.out ha.c1) hoff)
          · exact (World.cell?_setCell_other _ _ _ _ ne1).trans (HGZ.out.cell (kept_cell HB2.out ha.c2) hoff)
          · intro o
            rw [World.frozen?_setCell]
            exact (World.frozen?_of_block (HGZ.out.block h (by have := cell_lt z1; exact this) hoff)).trans (((bcell HB2.out).2 h o hhl).trans (ha.fr o))
          · rw [al, cellsU_snocM]
            refine ownsRow_setCell_other (a := ⟨h, 0, none⟩) HZ.out (fun e => ?_) _
            rcases hb1 with e1 | e1
            · rw [e1] at e; exact ha.off.1 e
            · rw [e1] at e; injection e with e; simp at e; omega
          · rw [al]
            refine ⟨fun e => ?_, fun e => ?_⟩
            · rcases hb1 with e1 | e1
              · rw [e1] at e; exact ha.off.1 e
              · rw [e1] at e; injection e with e; omega
            · rcases hb1 with e1 | e1
              · rw [e1] at e; exact ha.off.2 e
              · rw [e1] at e; injection e with e; omega
          · rw [HS.out]
            exact ⟨(World.cell?_setCell_other _ _ _ _ ne2).trans (HGZ.out.cell (kept_cell HB2.out ha.mod.cell) hoffp), hm1.setCell hbh _⟩
          · intro i e
            rw [al] at e
            rcases hb1 with e1 | e1
            · rw [e1] at e; exact Or.inl (hh.sr i e)
            · rw [e1] at e; injection e with e; right; have := (HZ.out.lt i (by rw [e1, e])).2; omega
          · intro i hi
            rw [World.size_setCell]
            rcases hi with hi | hi
            · have := hh.lt i hi; omega
            · exact hi.2
          · intro x hx
            rcases List.mem_append.1 hx with h1 | h1
            · exact hh.wf x h1
            · rw [List.mem_singleton.1 h1]; exact HW'.out
          · rw [al]; have := hh.le; omega
          · rw [al]; omega
        · refine (HO.out.trans (S' := fun i => S0 i ∨ w.heap.size ≤ i) ?_ (fun i hi => hi))
          refine ⟨HGZ.out.os.trans HB2.out.os, HGZ.out.tape.trans HB2.out.tape, HGZ.out.output.trans HB2.out.output, by rw [World.size_setCell]; omega, fun i hi hn => ?_⟩
          have hih : i ≠ h := fun e => hn (by rw [e]; exact Or.inl hh.sh)
          rw [Below.heap_setCell _ _ _ _ hih]
          refine (HGZ.out.block i (by simp; omega) (fun e => hn (Or.inl (hh.sr i e.symm)))).trans (HB2.out.block i hi)
    · have hE0' : ¬ (EN : Int) = 0 := by omega
      go_wp2_with fail
      go_ret
      refine ⟨rfl, ⟨S0, a, c, ?_, fun i hi => Or.inl hi⟩, HO.out⟩
      rw [← HAL.out, if_neg hE0]
      have hsame := errU_same (onAll_fit all).1 (by rw [HE.out]; exact hE0)
      obtain ⟨g0, g1, g2, g3, g4, g5, g6, g7⟩ := HA.out
      rw [hsame] at g6
      have hh := HH1.out
      exact ⟨g0, g1, g2, g3, g4, g5, g6, g7, hh.sh, hh.sp, hh.sb, hh.sr, fun i hi => Nat.lt_of_lt_of_le (hh.lt i hi) (by omega), hh.wf, hh.le, hh.len⟩

end Go.Proofs.Ythcjcmalfnfjkaa
