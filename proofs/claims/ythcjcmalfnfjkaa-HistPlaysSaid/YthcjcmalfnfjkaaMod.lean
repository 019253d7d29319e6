/-
  The walks of layer 12's model: New, Len, Copy, Update.
-/
import Derived.Test.YthcjcmalfnfjkaaMop
import Derived.Shelf.SlMaps.Clone
import Derived.Ground.SlmcProg
namespace Go.Proofs.Ythcjcmalfnfjkaa
open Go.RowKit Go.Maps Go.WideShapes Go.Shelf
set_option linter.unusedVariables false

def clonesA_ren : Go.Shelf.Ren := ⟨fun | 5 => 49 | 7 => 58 | n => n, fun | 23 => 98 | 25 => 9 | 3 => 9 | 4 => 4 | 20 => 20 | n => n, fun | n => n⟩
theorem clonesA : Go.Proofs.SlLaysW.n5 Try.prog clonesA_ren := {
  mixed := (by kernel_rfl),
  f5 := ⟨Try.f49.name, by decide, Try.func49.trans (congrArg some (by kernel_rfl))⟩,
  f7 := Try.func58.trans (congrArg some (by kernel_rfl)),
  t4 := Try.underlying4,
  a4 := Try.isAgg4,
  z4 := Try.sizeOf4,
  v4 := Try.zeroValue4,
  t20 := Try.underlying20,
  a20 := Try.isAgg20,
  z20 := Try.sizeOf20,
  v20 := Try.zeroValue20,
  t23 := Try.underlying98,
  a23 := Try.isAgg98,
  z23 := Try.sizeOf98,
  v23 := Try.zeroValue98 }

/-- A model in block p, its map in block b: just the entries l. -/
structure ModAt (w : World) (p b : Nat) (l : List Ent) : Prop where
  cell : w.cell? ⟨p, 0, none⟩ = some (.map (some b))
  map : MapIs w b l
theorem cell_lt {w : World} {p o : Nat} {v : Value} (h : w.cell? ⟨p, o, none⟩ = some v) : p < w.heap.size := by
  by_cases hp : p < w.heap.size
  · exact hp
  · have : w.heap[p]? = none := Array.getElem?_eq_none_iff.2 (by omega)
    simp [World.cell?, this] at h
theorem ModAt.ltp {w : World} {p b : Nat} {l : List Ent} (h : ModAt w p b l) : p < w.heap.size := cell_lt h.cell
theorem MapIs.ne {w : World} {b p o : Nat} {l : List Ent} {v : Value} (h : MapIs w b l) (hc : w.cell? ⟨p, o, none⟩ = some v) : p ≠ b := by
  rintro rfl
  obtain ⟨D, ⟨es, clock, hb, _⟩, _⟩ := h.own
  simp [World.cell?, hb] at hc
theorem ModAt.kept {w w' : World} {p b : Nat} {l : List Ent} (h : ModAt w p b l) {row : Option Nat} (hg : w.grownBy w' row) (hb : some b ≠ row) (hp : some p ≠ row) : ModAt w' p b l :=
  ⟨hg.cell h.cell hp, h.map.kept hg hb⟩
theorem ModAt.below {w w' : World} {p b : Nat} {l : List Ent} (h : ModAt w p b l) (hb : Below w.heap.size w w') : ModAt w' p b l := ⟨kept_cell hb h.cell, h.map.below hb⟩

set_option maxHeartbeats 1000000 in
theorem modNew_any (w : World) : Calls Try.prog 31 #[] w fun e w' => e = .returned (.pointer (some ⟨w.heap.size + 1, 0, none⟩)) ∧ ModAt w' (w.heap.size + 1) w.heap.size [] ∧ Below w.heap.size w w' ∧ w'.heap.size = w.heap.size + 2 := by
  have hmm := @run_makeMap Try.prog
  go_enter Try.func31, Try.ntmps31
  go_wp2_with fail
  have hb : Below w.heap.size w ((w.alloc (.map #[] 0)).alloc (.cells #[.map (some w.heap.size)] 100)) := ((Below.refl _ w).alloc (Nat.le_refl _) _).alloc (by simp) _
  have hm : MapIs ((w.alloc (.map #[] 0)).alloc (.cells #[.map (some w.heap.size)] 100)) w.heap.size [] := (MapIs.made w).kept (World.grownBy_alloc _ _ none) (by simp)
  have hc : ((w.alloc (.map #[] 0)).alloc (.cells #[.map (some w.heap.size)] 100)).cell? ⟨w.heap.size + 1, 0, none⟩ = some (.map (some w.heap.size)) := World.cell?_alloc_at _ _ _ _ (by simp)
  go_ret
  exact ⟨by simp, ⟨hc, hm⟩, hb, by simp⟩

set_option maxHeartbeats 1000000 in
theorem modLen_any (p b : Nat) (l : List Ent) (w : World) (h : ModAt w p b l) : Calls Try.prog 32 #[.pointer (some ⟨p, 0, none⟩)] w fun e w' => e = .returned (.int .i64 (l.length : Nat)) ∧ Below w.heap.size w w' := by
  obtain ⟨D, h1, h2⟩ := h.map.own
  have hc := h.cell
  have hlen := h1.len under_M 3
  rw [h2.size] at hlen
  go_enter Try.func32, Try.ntmps32
  go_wp2_with fail
  go_ret
  exact ⟨rfl, Below.refl _ _⟩

set_option maxHeartbeats 1000000 in
theorem modCopy_any (p b : Nat) (l : List Ent) (w : World) (h : ModAt w p b l) : Calls Try.prog 38 #[.pointer (some ⟨p, 0, none⟩)] w fun e w' => (∃ p' b', e = .returned (.pointer (some ⟨p', 0, none⟩)) ∧ w.heap.size ≤ p' ∧ w.heap.size ≤ b' ∧ ModAt w' p' b' l) ∧ Below w.heap.size w w' := by
  have hc := h.cell
  have HM := Lib.hid h.map
  clear h
  go_enter Try.func38, Try.ntmps38
  go_wp2_with fail
  obtain ⟨D, h1, h2⟩ := HM.out.own
  refine (AnyW.maps_Clone_owns clonesA 9 (plainElem Try.prog 9) b l.length D w h1).mono ?_
  rintro e w1 ⟨rfl, ho1, -, hB⟩
  have HC := Lib.hid (show MapIs w1 w.heap.size l from ⟨⟨D, ho1, h2⟩, HM.out.rise, HM.out.fine, HM.out.len⟩)
  clear ho1 h1
  go_wp2_with fail
  have hz := HC.out.lt
  have hb : Below w.heap.size w (w1.alloc (.cells #[.map (some w.heap.size)] 100)) := hB.alloc (by omega) _
  have hm := HC.out.kept (World.grownBy_alloc w1 (.cells #[.map (some w.heap.size)] 100) none) (by simp)
  have hc2 : (w1.alloc (.cells #[.map (some w.heap.size)] 100)).cell? ⟨w1.heap.size, 0, none⟩ = some (.map (some w.heap.size)) := World.cell?_alloc_at _ _ _ _ rfl
  go_ret
  exact ⟨⟨_, _, rfl, by omega, Nat.le_refl _, hc2, hm⟩, hb⟩

/-! ### Update -/
/-- What an update is told: its own fault, or that there is no number. -/
def errU (l : List Ent) (u : Upd) : Nat := if u.check ≠ 0 then u.check else if u.kind = 3 ∧ hasKey Ent.key l u.key = true ∧ ((lookE l u.key).getD []).length ≠ 8 then 14 else 0
theorem lookE_has {l : List Ent} (hr : Rising Ent.key l) (k : List UInt8) : hasKey Ent.key l k = (lookE l k).isSome := by
  cases hh : hasKey Ent.key l k with
  | false => rw [lookE_none hh]; rfl
  | true =>
    obtain ⟨e, he, hk⟩ := hasKey_iff.1 hh
    have := lookE_mem hr e he
    rw [hk] at this; rw [this]; rfl
theorem newE_look {l : List Ent} (hr : Rising Ent.key l) (u : Upd) : onL ((lookE l u.key).getD []) (hasKey Ent.key l u.key) u = newE l u := by
  rw [← newE_is hr u, lookE_has hr]
  cases lookE l u.key <;> rfl
theorem onE_same {l : List Ent} (hr : Rising Ent.key l) (u : Upd) (hk : u.kind = 3) (hh : hasKey Ent.key l u.key = true) (h8 : ((lookE l u.key).getD []).length ≠ 8) : onE l u = l := by
  have h1 := onE_look hr u
  refine lookE_ext (onE_rising hr u) hr fun k => ?_
  rw [h1 k]
  split
  · rename_i e
    subst e
    have hs := lookE_has hr u.key
    rw [hh] at hs
    cases hl : lookE l u.key with
    | none => rw [hl] at hs; exact absurd hs (by simp)
    | some v =>
      rw [hl] at h8
      unfold actE
      simp only [Option.getD_some] at h8
      split
      · rfl
      · simp [onL_add v u hk h8]
  · rfl
theorem MapIs.drew {w : World} {b : Nat} {l : List Ent} (h : MapIs w b l) : MapIs w.drew b l := h.below (below_drew' (Below.refl _ _))
theorem MapIs.store {w : World} {b : Nat} {l l' : List Ent} (h : MapIs w b l) (k v : List UInt8) (hk : k.length ≤ 1000000) (hv : v.length ≤ 1000000) (hp : l'.Perm (⟨k, v⟩ :: l.filter (fun e => e.key != k))) (hr : Rising Ent.key l') (hf : FineE l') (hl : l'.length ≤ 1000000) :
    ∃ w2, (Instr.mapUpdate 98 (.map (some b)) (.string (S k)) (.string (S v))).run Try.prog w = .ok () w2 ∧ MapIs w2 b l' ∧ w.grownBy w2 (some b) := by
  obtain ⟨D, h1, h2⟩ := h.own
  obtain ⟨w2, hrun, ho, hg⟩ := h1.update lawS under_M (by have := h.len; unfold maxLen; omega) (keyS k hk) (elemS v hv)
  have hs := h2.put k v hp
  exact ⟨w2, hrun, ⟨⟨_, owns_tight ho hs, hs⟩, hr, hf, hl⟩, hg⟩
theorem MapIs.drop {w : World} {b : Nat} {l l' : List Ent} (h : MapIs w b l) (k : List UInt8) (hk : k.length ≤ 1000000) (hp : l'.Perm (l.filter (fun e => e.key != k))) (hr : Rising Ent.key l') (hf : FineE l') (hl : l'.length ≤ 1000000) (ty : TypeId) :
    ∃ w2, (Builtin.delete_ #[98, 9] ty #[.map (some b), .string (S k)]).run Try.prog w = .ok (.tuple #[]) w2 ∧ MapIs w2 b l' ∧ w.grownBy w2 (some b) := by
  obtain ⟨D, h1, h2⟩ := h.own
  obtain ⟨w2, hrun, ho, hg⟩ := h1.drop lawS under_M (keyS k hk) ty
  have hs := h2.del k hp
  exact ⟨w2, hrun, ⟨⟨_, owns_tight ho hs, hs⟩, hr, hf, hl⟩, hg.grown⟩

set_option maxRecDepth 100000 in
set_option maxHeartbeats 4000000 in
theorem modUp_refused (p b : Nat) (l : List Ent) (kd : Nat) (key val : List UInt8) (dl : Nat) (w : World) (hk : kd < 256) (hd : dl < 18446744073709551616) (hc : (Upd.mk kd key val dl).check ≠ 0) :
    Calls Try.prog 37 #[.pointer (some ⟨p, 0, none⟩), .agg #[.int .u8 kd, .string (S key), .string (S val), .int .u64 dl]] w fun e w' => e = .returned (.int .i64 (Upd.mk kd key val dl).check) ∧ Below w.heap.size w w' := by
  have hchk := fun w => chk kd key val dl hk hd w
  have hc0 : (((Upd.mk kd key val dl).check : Nat) : Int) ≠ 0 := by omega
  generalize (Upd.mk kd key val dl).check = cc at *
  go_enter Try.func37, Try.ntmps37
  go_wp2_with fail
  refine (thread (hchk _) w.heap.size w (by go_grown) (by go_grown)).mono ?_
  rintro e w1 ⟨rfl, hB1, -, -, -, -⟩
  go_wp2_with fail
  go_ret
  exact ⟨rfl, hB1⟩

/-- What stands behind the check of an update that may be. -/
structure UpAt (p b : Nat) (l : List Ent) (kd : Nat) (key val : List UInt8) (dl : Nat) (w0 w : World) : Prop where
  cell : w.cell? ⟨p, 0, none⟩ = some (.map (some b))
  map : MapIs w b l
  q0 : w.cell? ⟨w0.heap.size, 0, none⟩ = some (.int .u8 kd)
  q1 : w.cell? ⟨w0.heap.size, 1, none⟩ = some (.string (S key))
  q2 : w.cell? ⟨w0.heap.size, 2, none⟩ = some (.string (S val))
  q3 : w.cell? ⟨w0.heap.size, 3, none⟩ = some (.int .u64 dl)
  low : Below w0.heap.size w0 w
theorem UpAt.on {p b : Nat} {l : List Ent} {kd : Nat} {key val : List UInt8} {dl : Nat} {w0 w w' : World} (h : UpAt p b l kd key val dl w0 w) (hb : Below w.heap.size w w') : UpAt p b l kd key val dl w0 w' :=
  ⟨kept_cell hb h.cell, h.map.below hb, kept_cell hb h.q0, kept_cell hb h.q1, kept_cell hb h.q2, kept_cell hb h.q3, h.low.trans (hb.mono h.low.size)⟩
theorem UpAt.drew {p b : Nat} {l : List Ent} {kd : Nat} {key val : List UInt8} {dl : Nat} {w0 w : World} (h : UpAt p b l kd key val dl w0 w) : UpAt p b l kd key val dl w0 w.drew := h.on (below_drew' (Below.refl _ _))
theorem UpAt.start {p b : Nat} {l : List Ent} {kd : Nat} {key val : List UInt8} {dl : Nat} {w : World} (t : TypeId) (h : ModAt w p b l) :
    UpAt p b l kd key val dl w (w.alloc (.cells #[.int .u8 kd, .string (S key), .string (S val), .int .u64 dl] t)) := by
  have hb : Below w.heap.size w (w.alloc (.cells #[.int .u8 kd, .string (S key), .string (S val), .int .u64 dl] t)) := by go_grown
  exact ⟨kept_cell hb h.cell, h.map.below hb, by simp, by simp, by simp, by simp, hb⟩

set_option maxRecDepth 100000 in
set_option maxHeartbeats 8000000 in
theorem modUp_fits (p b : Nat) (l : List Ent) (kd : Nat) (key val : List UInt8) (dl : Nat) (w : World) (h : ModAt w p b l) (hk : kd < 256) (hd : dl < 18446744073709551616) (hc : (Upd.mk kd key val dl).check = 0) (hl : l.length < 1000000) :
    Calls Try.prog 37 #[.pointer (some ⟨p, 0, none⟩), .agg #[.int .u8 kd, .string (S key), .string (S val), .int .u64 dl]] w fun e w' => e = .returned (.int .i64 (errU l ⟨kd, key, val, dl⟩)) ∧ ModAt w' p b (onE l ⟨kd, key, val, dl⟩) ∧ w.grownBy w' (some b) := by
  have hchk := fun w => chk kd key val dl hk hd w
  rw [hc] at hchk
  obtain ⟨hk1, hk16, hv32, -⟩ := Upd.check_ok hc
  dsimp only at hk1 hk16 hv32
  have hrise := h.map.rise
  have hfine := h.map.fine
  have hnew := newE_look hrise ⟨kd, key, val, dl⟩
  have herr : errU l ⟨kd, key, val, dl⟩ = if kd = 3 ∧ hasKey Ent.key l key = true ∧ ((lookE l key).getD []).length ≠ 8 then 14 else 0 := by unfold errU; rw [if_neg (by simp [hc])]
  have hsame := onE_same hrise ⟨kd, key, val, dl⟩
  have hperm := onE_perm hrise ⟨kd, key, val, dl⟩ hc
  have hrise' := onE_rising hrise ⟨kd, key, val, dl⟩
  have hfine' := onE_fine hrise hfine ⟨kd, key, val, dl⟩
  have hlen' := onE_len hrise ⟨kd, key, val, dl⟩
  have hold : ((lookE l key).getD []).length ≤ 32 := by
    cases hlk : lookE l key with
    | none => simp
    | some v => exact (hfine _ (mem_lookE hlk)).2.2
  have hlook : ∀ w', MapIs w' b l → (Instr.lookup 98 (.map (some b)) (.string (S key)) true).run Try.prog w' = .ok (.tuple #[.string (S ((lookE l key).getD [])), .bool (hasKey Ent.key l key)]) w' := fun w' hm => hm.look key (by omega)
  dsimp only at hnew hsame
  generalize hEN : errU l ⟨kd, key, val, dl⟩ = EN at *
  have HE := Lib.hid herr
  clear hEN
  have HO := Lib.hid (UpAt.start (kd := kd) (key := key) (val := val) (dl := dl) 36 h)
  generalize hold' : (lookE l key).getD [] = old at *
  generalize hthere' : hasKey Ent.key l key = there at *
  generalize hne : newE l ⟨kd, key, val, dl⟩ = ne at *
  obtain ⟨y, is⟩ := ne
  dsimp only at hnew hperm
  have hy : y.length ≤ 32 := by have := onL_len old there ⟨kd, key, val, dl⟩ 32 hold hv32 (by omega); rw [hnew] at this; exact this
  have hnum := fun w => number_any old (by omega) w
  have hon := fun w => on_any old there kd key val dl (by omega) hk hd w
  simp only [onV, hnew] at hon
  generalize onE l ⟨kd, key, val, dl⟩ = l' at *
  have HC := Lib.hid hchk
  have HN := Lib.hid hnum
  have HW := Lib.hid hon
  have HL := Lib.hid hlook
  have HP := Lib.hid hperm
  have HS := Lib.hid hsame
  have HR := Lib.hid (And.intro hrise' (And.intro hfine' hlen'))
  clear hchk hnum hon hlook hperm hsame hrise' hfine' hlen' hnew hrise hfine herr h hold hc hold' hthere' hne hk1
  have hkd : (kd : Int) < 256 := by omega
  go_enter Try.func37, Try.ntmps37
  go_wp2_with fail
  refine (HC.out _).mono ?_
  rintro e w1 ⟨rfl, hB1⟩
  have HO1 := Lib.hid (HO.out.on hB1)
  clear HO HC hB1
  go_upto_region 6 with (fail)
  have hlk := HL.out w1.drew HO1.out.drew.map
  obtain ⟨c1, -, q0, q1, q2, q3, -⟩ := HO1.out
  go_region
  have HO2 := Lib.hid HO1.out.drew
  clear c1 q0 q1 q2 q3 hlk HO1
  obtain ⟨c1, -, q0, q1, q2, q3, -⟩ := HO2.out
  go_wp2_with fail
  refine (HN.out _).mono ?_
  rintro e w3 ⟨rfl, hB3⟩
  generalize (if old.length = 8 then numL old else 0) = qn
  generalize hd8 : decide (old.length = 8) = b8
  have HD8 := Lib.hid hd8
  clear hd8
  have HO3 := Lib.hid (HO2.out.on hB3)
  clear c1 q0 q1 q2 q3 HO2 HN hB3
  obtain ⟨c1, -, q0, q1, q2, q3, -⟩ := HO3.out
  by_cases h14 : kd = 3 ∧ there = true ∧ old.length ≠ 8
  · obtain ⟨hk3, rfl, h8⟩ := h14
    have hk3' : (kd : Int) = 3 := by omega
    obtain rfl : b8 = false := by rw [← HD8.out]; simp [h8]
    have hll := Lib.hid (HS.out hk3 rfl h8)
    have he := HE.out
    rw [if_pos ⟨hk3, rfl, h8⟩] at he
    subst he
    clear hk3
    go_wp2_with fail
    go_ret
    refine ⟨rfl, ?_, ?_⟩
    · rw [hll.out]; exact ⟨HO3.out.cell, HO3.out.map⟩
    · have := HO3.out.low
      exact ⟨this.os, this.tape, this.output, this.size, fun i hi _ => this.block i hi⟩
  · have he := HE.out
    rw [if_neg h14] at he
    subst he
    have HNo : Hid (kd = 3 → there = true → old.length = 8) := Lib.hid (fun h1 h2 => by
      by_cases h3 : old.length = 8
      · exact h3
      · exact absurd ⟨h1, h2, h3⟩ h14)
    clear h14
    have fin : ∀ (w4 : World), UpAt p b l kd key val dl w w4 → ∀ (w5 : World), MapIs w5 b l' → w4.grownBy w5 (some b) → ModAt w5 p b l' ∧ w.grownBy w5 (some b) := by
      intro w4 h4 w5 hm hg
      refine ⟨⟨hg.cell h4.cell (fun e => by injection e with e; exact h4.map.ne h4.cell e), hm⟩, ?_⟩
      have hlow := h4.low
      exact ⟨hg.os.trans hlow.os, hg.tape.trans hlow.tape, hg.output.trans hlow.output, Nat.le_trans hlow.size hg.size, fun i hi hn => (hg.block i (Nat.lt_of_lt_of_le hi hlow.size) hn).trans (hlow.block i hi)⟩
    have Hfin := Lib.hid fin
    clear fin
    by_cases hk3 : kd = 3
    · have HNo' := Lib.hid (HNo.out hk3)
      subst hk3
      have q0' : w3.cell? ⟨w.heap.size, 0, none⟩ = some (.int .u8 3) := q0
      clear HNo q0 HE HS
      cases there with
      | false =>
        skip
        go_wp2_with fail
        refine (HW.out _).mono ?_
        rintro e w4 ⟨rfl, hB4⟩
        have HO4 := Lib.hid (HO3.out.on hB4)
        clear c1 q1 q2 q3 HO3 HW hB4
        have HO5 := Lib.hid HO4.out.drew
        obtain ⟨c1, -, -, q1, -, -, -⟩ := HO4.out
        obtain ⟨hr1, hr2, hr3⟩ := HR.out
        cases is with
        | true =>
          have hp := HP.out
          rw [if_pos rfl] at hp
          obtain ⟨w5, hrun, hm5, hg5⟩ := HO5.out.map.store key y (by omega) (by omega) hp hr1 hr2 (by omega)
          have HF := Lib.hid (Hfin.out _ HO5.out w5 hm5 hg5)
          clear hm5 hg5 hp Hfin HP
          go_wp2_with fail
          go_region
          go_wp2_with fail
          go_ret
          exact ⟨rfl, HF.out⟩
        | false =>
          have hp := HP.out
          rw [if_neg (by simp)] at hp
          obtain ⟨w5, hrun, hm5, hg5⟩ := HO5.out.map.drop key (by omega) hp hr1 hr2 (by omega) 0
          have HF := Lib.hid (Hfin.out _ HO5.out w5 hm5 hg5)
          clear hm5 hg5 hp Hfin HP
          go_wp2_with fail
          go_region
          go_wp2_with fail
          go_ret
          exact ⟨rfl, HF.out⟩
      | true =>
        have h8 := HNo'.out rfl
        obtain rfl : b8 = true := by rw [← HD8.out]; simp [h8]
        clear h8
        go_wp2_with fail
        refine (HW.out _).mono ?_
        rintro e w4 ⟨rfl, hB4⟩
        have HO4 := Lib.hid (HO3.out.on hB4)
        clear c1 q1 q2 q3 HO3 HW hB4
        have HO5 := Lib.hid HO4.out.drew
        obtain ⟨c1, -, -, q1, -, -, -⟩ := HO4.out
        obtain ⟨hr1, hr2, hr3⟩ := HR.out
        cases is with
        | true =>
          have hp := HP.out
          rw [if_pos rfl] at hp
          obtain ⟨w5, hrun, hm5, hg5⟩ := HO5.out.map.store key y (by omega) (by omega) hp hr1 hr2 (by omega)
          have HF := Lib.hid (Hfin.out _ HO5.out w5 hm5 hg5)
          clear hm5 hg5 hp Hfin HP
          go_wp2_with fail
          go_region
          go_wp2_with fail
          go_ret
          exact ⟨rfl, HF.out⟩
        | false =>
          have hp := HP.out
          rw [if_neg (by simp)] at hp
          obtain ⟨w5, hrun, hm5, hg5⟩ := HO5.out.map.drop key (by omega) hp hr1 hr2 (by omega) 0
          have HF := Lib.hid (Hfin.out _ HO5.out w5 hm5 hg5)
          clear hm5 hg5 hp Hfin HP
          go_wp2_with fail
          go_region
          go_wp2_with fail
          go_ret
          exact ⟨rfl, HF.out⟩
    · have hk3' : ¬ (kd : Int) = 3 := by omega
      clear hk3
      go_wp2_with fail
      refine (HW.out _).mono ?_
      rintro e w4 ⟨rfl, hB4⟩
      have HO4 := Lib.hid (HO3.out.on hB4)
      clear c1 q1 q2 q3 HO3 HW hB4
      have HO5 := Lib.hid HO4.out.drew
      obtain ⟨c1, -, -, q1, -, -, -⟩ := HO4.out
      obtain ⟨hr1, hr2, hr3⟩ := HR.out
      cases is with
      | true =>
        have hp := HP.out
        rw [if_pos rfl] at hp
        obtain ⟨w5, hrun, hm5, hg5⟩ := HO5.out.map.store key y (by omega) (by omega) hp hr1 hr2 (by omega)
        have HF := Lib.hid (Hfin.out _ HO5.out w5 hm5 hg5)
        clear hm5 hg5 hp Hfin HP
        go_wp2_with fail
        go_region
        go_wp2_with fail
        go_ret
        exact ⟨rfl, HF.out⟩
      | false =>
        have hp := HP.out
        rw [if_neg (by simp)] at hp
        obtain ⟨w5, hrun, hm5, hg5⟩ := HO5.out.map.drop key (by omega) hp hr1 hr2 (by omega) 0
        have HF := Lib.hid (Hfin.out _ HO5.out w5 hm5 hg5)
        clear hm5 hg5 hp Hfin HP
        go_wp2_with fail
        go_region
        go_wp2_with fail
        go_ret
        exact ⟨rfl, HF.out⟩

end Go.Proofs.Ythcjcmalfnfjkaa
