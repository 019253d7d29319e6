/-
  The walk of the leaf statements' of.
-/
import Derived.Test.YtcjeonamebnpfaaTame
import Derived.Test.YtcjeonamebnpfaaBufC
import Derived.BigRegion
import Derived.Deep.RegionHeld3
namespace Go.Proofs.Ytcjeonamebnpfaa
open Go.RowKit

/-- An update, its key and its value cut. -/
def ofL (u : Upd) : Upd := ⟨u.kind, u.key.take (min u.key.length 20), u.val.take (min u.val.length 36), u.delta⟩

set_option maxRecDepth 100000 in
set_option maxHeartbeats 4000000 in
theorem of_all (kd : Nat) (key val : List UInt8) (dl : Nat) (w : World) (hkl : key.length ≤ 140737488355328) (hvl : val.length ≤ 140737488355328) :
    Calls Try.prog 21 #[.agg #[.int .u8 kd, .string (S key), .string (S val), .int .u64 dl]] w fun e w' => e = .returned (.tuple #[updV (ofL ⟨kd, key, val, dl⟩), updV (ofL ⟨kd, key, val, dl⟩)]) ∧ Below w.heap.size w w' := by
  have hmin := fun ts t a b w => run_tmin (P := Try.prog) ts t a b w
  have hm1 : tmin (key.length : Int) 20 = ((min key.length 20 : Nat) : Int) := tmin_nat key.length 20
  have hm2 : tmin (val.length : Int) 36 = ((min val.length 36 : Nat) : Int) := tmin_nat val.length 36
  have hT : updV (ofL ⟨kd, key, val, dl⟩) = .agg #[.int .u8 kd, .string (S (key.take (min key.length 20))), .string (S (val.take (min val.length 36))), .int .u64 dl] := rfl
  generalize hA : min key.length 20 = A at *
  have hAl : A ≤ key.length := by omega
  generalize hB : min val.length 36 = B at *
  have hBl : B ≤ val.length := by omega
  have hs1 := fun w => take_str key A hAl w
  have hs2 := fun w => take_str val B hBl w
  generalize key.take A = K1 at *
  generalize val.take B = V1 at *
  have HT := Lib.hid hT
  clear hT
  go_enter Try.func21, Try.ntmps21
  go_wp2_with fail
  go_big_region
  go_wp2_with fail
  go_region_held3 (fun w' => w'.cell? ⟨w.heap.size, 0, none⟩ = some (.int .u8 kd) ∧ w'.cell? ⟨w.heap.size, 1, none⟩ = some (.string (S K1)) ∧ w'.cell? ⟨w.heap.size, 2, none⟩ = some (.string (S V1)) ∧ w'.cell? ⟨w.heap.size, 3, none⟩ = some (.int .u64 dl))
    (first | assumption | exact ⟨cell_drew (cell_drew (cell_past _ (cell_past _ (by simp)))), cell_drew (cell_drew (cell_past _ (cell_past _ (by simp)))), cell_drew (cell_drew (cell_past _ (cell_past _ (by simp)))), cell_drew (cell_drew (cell_past _ (cell_past _ (by simp))))⟩ | exact ⟨cell_drew (cell_past _ (cell_past _ (by simp))), cell_drew (cell_past _ (cell_past _ (by simp))), cell_drew (cell_past _ (cell_past _ (by simp))), cell_drew (cell_past _ (cell_past _ (by simp)))⟩ | exact ⟨cell_past _ (cell_past _ (by simp)), cell_past _ (cell_past _ (by simp)), cell_past _ (cell_past _ (by simp)), cell_past _ (cell_past _ (by simp))⟩)
    (fail)
  all_goals
    go_wp2_with fail
    exact bodyPost_ret (v := .tuple #[.agg #[.int .u8 kd, .string (S K1), .string (S V1), .int .u64 dl], .agg #[.int .u8 kd, .string (S K1), .string (S V1), .int .u64 dl]]) (by simp [results, Try.results21, go_sem]) rfl ⟨by rw [HT.out], by go_grown⟩

theorem of_upd (u : Upd) (w : World) (h2 : u.key.length ≤ 140737488355328) (h3 : u.val.length ≤ 140737488355328) :
    Calls Try.prog 21 #[.agg #[.int .u8 u.kind, .string (S u.key), .string (S u.val), .int .u64 u.delta]] w fun e w' => (∃ T, ofL u = T ∧ e = .returned (.tuple #[.agg #[.int .u8 T.kind, .string (S T.key), .string (S T.val), .int .u64 T.delta], .agg #[.int .u8 T.kind, .string (S T.key), .string (S T.val), .int .u64 T.delta]])) ∧ Below w.heap.size w w' :=
  (of_all u.kind u.key u.val u.delta w h2 h3).mono fun _ _ ⟨he, hb⟩ => ⟨⟨_, rfl, he⟩, hb⟩
theorem of_fits (u : Upd) (h : u.Wf) : (ofL u).Wf ∧ (ofL u).key.length ≤ 20 ∧ (ofL u).val.length ≤ 36 := by
  obtain ⟨h1, h2⟩ := h
  refine ⟨⟨h1, h2⟩, ?_, ?_⟩
  · show (u.key.take _).length ≤ 20
    rw [List.length_take]; omega
  · show (u.val.take _).length ≤ 36
    rw [List.length_take]; omega

end Go.Proofs.Ytcjeonamebnpfaa
