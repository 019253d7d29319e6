/-
  The walk of a model's Of.
-/
import Derived.Test.YthcjcmalfnfjkaaMod
import Derived.Deep.RegionLawGrows
namespace Go.Proofs.Ythcjcmalfnfjkaa
open Go.RowKit Go.Maps Go.WideShapes Go.Shelf
set_option linter.unusedVariables false

theorem modUp_any (p b : Nat) (l : List Ent) (kd : Nat) (key val : List UInt8) (dl : Nat) (w : World) (h : ModAt w p b l) (hk : kd < 256) (hd : dl < 18446744073709551616) (hl : l.length < 1000000) :
    Calls Try.prog 37 #[.pointer (some ⟨p, 0, none⟩), .agg #[.int .u8 kd, .string (S key), .string (S val), .int .u64 dl]] w fun e w' => e = .returned (.int .i64 (errU l ⟨kd, key, val, dl⟩ : Nat)) ∧ ModAt w' p b (onE l ⟨kd, key, val, dl⟩) ∧ w.grownBy w' (some b) := by
  by_cases hc : (Upd.mk kd key val dl).check = 0
  · exact modUp_fits p b l kd key val dl w h hk hd hc hl
  · refine (modUp_refused p b l kd key val dl w hk hd hc).mono ?_
    rintro e w' ⟨rfl, hB⟩
    have h1 : errU l ⟨kd, key, val, dl⟩ = (Upd.mk kd key val dl).check := by unfold errU; rw [if_pos hc]
    have h2 : onE l ⟨kd, key, val, dl⟩ = l := by unfold onE; rw [if_pos hc]
    rw [h1, h2]
    exact ⟨rfl, h.below hB, ⟨hB.os, hB.tape, hB.output, hB.size, fun i hi _ => hB.block i hi⟩⟩
theorem modUp_upd (p b : Nat) (l : List Ent) (u : Upd) (w : World) (h : ModAt w p b l) (hu : u.Wf) (hl : l.length < 1000000) :
    Calls Try.prog 37 #[.pointer (some ⟨p, 0, none⟩), .agg #[.int .u8 u.kind, .string (S u.key), .string (S u.val), .int .u64 u.delta]] w fun e w' => e = .returned (.int .i64 (errU l u : Nat)) ∧ ModAt w' p b (onE l u) ∧ w.grownBy w' (some b) :=
  modUp_any p b l u.kind u.key u.val u.delta w h hu.1 hu.2 hl
theorem onAll_take (us : List Upd) (j : Nat) (hj : j < us.length) : onAll [] (us.take (j + 1)) = onE (onAll [] (us.take j)) us[j] := by
  rw [List.take_succ_eq_append_getElem hj, onAll_snoc]
theorem onAll_fit (us : List Upd) : Rising Ent.key (onAll [] us) ∧ FineE (onAll [] us) ∧ (onAll [] us).length ≤ us.length := by
  have := onAll_ok [] List.Pairwise.nil (fun e he => by simp at he) us
  simpa using this
theorem own_ne_below {B : Nat} {w0 w w' : World} {b : Nat} (hb : Below B w0 w) (hg : w.grownBy w' (some b)) (h : B ≤ b) (hB : B ≤ w.heap.size) : Below B w0 w' := below_grown hb hg (fun k e => by injection e with e; omega) hB

set_option maxRecDepth 100000 in
set_option maxHeartbeats 4000000 in
theorem modOf_any (ao : Option Addr) (c : Nat) (us : List Upd) (w : World) (hs : SlAt Upd.cells 4 w ao us) (hw : ∀ u ∈ us, u.Wf) (hl : us.length ≤ 1000) :
    Calls Try.prog 34 #[.slice ao us.length c] w fun e w' => (∃ p b, e = .returned (.pointer (some ⟨p, 0, none⟩)) ∧ w.heap.size ≤ p ∧ w.heap.size ≤ b ∧ ModAt w' p b (onAll [] us)) ∧ Below w.heap.size w w' := by
  have HS := Lib.hid hs
  have HW := Lib.hid hw
  clear hs hw
  go_enter Try.func34, Try.ntmps34
  go_wp2_with fail
  refine (modNew_any w).mono ?_
  rintro e w1 ⟨rfl, hm, hB1, hz1⟩
  have HM1 := Lib.hid hm
  clear hm
  go_wp2_with fail
  go_loopw [9] (fun i wr => ∃ j : Nat, i = .int .i64 j ∧ j ≤ us.length ∧ Hid (ModAt wr (w.heap.size + 1) w.heap.size (onAll [] (us.take j))) ∧ Below w.heap.size w wr) (fun i _ => us.length - (intOf i).toNat)
  case atStart => exact ⟨0, rfl, Nat.zero_le _, Lib.hid (by simpa [onAll] using HM1.out), hB1⟩
  case round =>
    obtain ⟨j, rfl, hj, HM, hB⟩ := hrel
    have hj0 : (0 : Int) ≤ (j : Int) := Int.natCast_nonneg _
    have hzr := hB.size
    by_cases hjl : j < us.length
    · have hj1 : (j : Int) < (us.length : Int) := by omega
      obtain ⟨b, off, rfl, hb, t0, t1, t2, t3⟩ := SlAt.cells4 HS.out j hjl
      have q0 := (cell_below hB hb _).trans t0
      have q1 := (cell_below hB hb _).trans t1
      have q2 := (cell_below hB hb _).trans t2
      have q3 := (cell_below hB hb _).trans t3
      have HT := Lib.hid (onAll_take us j hjl)
      have hwf := HW.out _ (List.getElem_mem hjl)
      have hfit := (onAll_fit (us.take j)).2.2
      rw [List.length_take] at hfit
      clear t0 t1 t2 t3
      generalize us[j] = u at *
      generalize onAll [] (us.take j) = lj at *
      go_upto_region 5 with (fail)
      have hX : Below wr.heap.size wr (wr.alloc (.cells #[.int .u8 u.kind, .string (S u.key), .string (S u.val), .int .u64 u.delta] 36)) := by go_grown
      have HM2 := Lib.hid (HM.out.below hX)
      go_wp2_with fail
      refine (modUp_upd _ _ lj u _ HM2.out hwf (by omega)).mono ?_
      rintro e w2 ⟨rfl, hm2, hg2⟩
      have HM3 := Lib.hid hm2
      have hB2 := own_ne_below (hB.trans (hX.mono hzr)) hg2 (Nat.le_refl _) (by simp; omega)
      clear hm2 hg2 HM2 hX
      go_wp2_with fail
      exact ⟨⟨j + 1, by go_num, by omega, Lib.hid (by rw [HT.out]; exact HM3.out), hB2⟩, by simp [intOf]; omega⟩
    · obtain rfl : j = us.length := by omega
      rw [List.take_length] at HM
      go_wp2_with fail
      go_ret
      exact ⟨⟨_, _, rfl, by omega, Nat.le_refl _, HM.out⟩, hB⟩
theorem modOf_of (ao : Option Addr) (c : Nat) (us : List Upd) (n : Nat) (w : World) (hn : us.length = n) (hs : SlAt Upd.cells 4 w ao us) (hw : ∀ u ∈ us, u.Wf) (hl : us.length ≤ 1000) :
    Calls Try.prog 34 #[.slice ao n c] w fun e w' => (∃ p b, e = .returned (.pointer (some ⟨p, 0, none⟩)) ∧ w.heap.size ≤ p ∧ w.heap.size ≤ b ∧ ModAt w' p b (onAll [] us)) ∧ Below w.heap.size w w' := by
  subst hn
  exact modOf_any ao c us w hs hw hl

end Go.Proofs.Ythcjcmalfnfjkaa
