/-
  The walk of tame: the updates that the statements make.
-/
import Derived.Test.YtcjeonamebnpfaaMsgO
import Derived.Test.YtcjeonamebnpfaaUse
import Derived.Deep.RegionHeld3
import Derived.Deep.DrawnRows
namespace Go.Proofs.Ytcjeonamebnpfaa
open Go.RowKit

/-- The update made of any one. -/
def tameL (u : Upd) : Upd := ⟨1 + u.kind % 3, (u.key ++ [107]).take (min (u.key.length + 1) 3), if 1 + u.kind % 3 = 1 then u.val.take (min u.val.length 20) else [], if 1 + u.kind % 3 = 3 then u.delta else 0⟩
set_option maxRecDepth 100000 in
set_option maxHeartbeats 4000000 in
theorem tame_put (kd : Nat) (key val : List UInt8) (dl : Nat) (w : World) (hk : kd < 256) (hkl : key.length ≤ 140737488355328) (hvl : val.length ≤ 140737488355328) (h : kd % 3 = 0) :
    Calls Try.prog 11 #[.agg #[.int .u8 kd, .string (S key), .string (S val), .int .u64 dl]] w fun e w' => e = .returned (.tuple #[updV (tameL ⟨kd, key, val, dl⟩), updV (tameL ⟨kd, key, val, dl⟩)]) ∧ Below w.heap.size w w' := by
  have hmin := fun ts t a b w => run_tmin (P := Try.prog) ts t a b w
  have hm1 : tmin ((key.length : Int) + 1) 3 = ((min (key.length + 1) 3 : Nat) : Int) := tmin_nat (key.length + 1) 3
  have hm2 : tmin (val.length : Int) 20 = ((min val.length 20 : Nat) : Int) := tmin_nat val.length 20
  have hw : IntKind.i64.wrap ((key.length : Int) + 1) = (key.length : Int) + 1 := by rw [IntKind.wrap_i64]; omega
  have hlen : (key ++ [107]).length = key.length + 1 := by simp
  generalize hA : min (key.length + 1) 3 = A at *
  have hAl : A ≤ (key ++ [107]).length := by omega
  generalize hB : min val.length 20 = B at *
  have hBl : B ≤ val.length := by omega
  have hs1 : (S key ++ ⟨#[107]⟩).extract 0 A = S ((key ++ [107]).take A) := by rw [show (⟨#[107]⟩ : ByteArray) = S [107] from rfl, S_append, S_extract]; simp
  have hs2 := fun w => take_str val B hBl w
  have hT : updV (tameL ⟨kd, key, val, dl⟩) = .agg #[.int .u8 ((1 + kd % 3 : Nat) : Int), .string (S ((key ++ [107]).take A)), .string (S (if 1 + kd % 3 = 1 then val.take B else [])), .int .u64 ((if 1 + kd % 3 = 3 then dl else 0 : Nat) : Int)] := by unfold tameL updV; simp only [hA, hB]
  have hr : IntKind.u8.wrap (1 + (kd : Int) % 3) = ((1 + kd % 3 : Nat) : Int) := by rw [IntKind.wrap_u8]; omega
  generalize (key ++ [107]).take A = K1 at *
  generalize val.take B = V1 at *
  rw [h] at hT hr
  have HT : Hid (updV (tameL ⟨kd, key, val, dl⟩) = .agg #[.int .u8 1, .string (S K1), .string (S V1), .int .u64 0]) := Lib.hid (hT.trans (by simp))
  have hr' : IntKind.u8.wrap (1 + (kd : Int) % 3) = 1 := hr
  clear hT hr
  go_enter Try.func11, Try.ntmps11
  go_wp2_with fail
  go_region
  go_wp2_with fail
  go_region
  all_goals
    go_wp2_with fail
    exact bodyPost_ret (v := .tuple #[.agg #[.int .u8 1, .string (S K1), .string (S V1), .int .u64 0], .agg #[.int .u8 1, .string (S K1), .string (S V1), .int .u64 0]]) (by simp [results, Try.results11, go_sem]) rfl ⟨by rw [HT.out], by go_grown⟩

set_option maxRecDepth 100000 in
set_option maxHeartbeats 4000000 in
theorem tame_del (kd : Nat) (key val : List UInt8) (dl : Nat) (w : World) (hk : kd < 256) (hkl : key.length ≤ 140737488355328) (hvl : val.length ≤ 140737488355328) (h : kd % 3 = 1) :
    Calls Try.prog 11 #[.agg #[.int .u8 kd, .string (S key), .string (S val), .int .u64 dl]] w fun e w' => e = .returned (.tuple #[updV (tameL ⟨kd, key, val, dl⟩), updV (tameL ⟨kd, key, val, dl⟩)]) ∧ Below w.heap.size w w' := by
  have hmin := fun ts t a b w => run_tmin (P := Try.prog) ts t a b w
  have hm1 : tmin ((key.length : Int) + 1) 3 = ((min (key.length + 1) 3 : Nat) : Int) := tmin_nat (key.length + 1) 3
  have hm2 : tmin (val.length : Int) 20 = ((min val.length 20 : Nat) : Int) := tmin_nat val.length 20
  have hw : IntKind.i64.wrap ((key.length : Int) + 1) = (key.length : Int) + 1 := by rw [IntKind.wrap_i64]; omega
  have hlen : (key ++ [107]).length = key.length + 1 := by simp
  generalize hA : min (key.length + 1) 3 = A at *
  have hAl : A ≤ (key ++ [107]).length := by omega
  generalize hB : min val.length 20 = B at *
  have hBl : B ≤ val.length := by omega
  have hs1 : (S key ++ ⟨#[107]⟩).extract 0 A = S ((key ++ [107]).take A) := by rw [show (⟨#[107]⟩ : ByteArray) = S [107] from rfl, S_append, S_extract]; simp
  have hs2 := fun w => take_str val B hBl w
  have hT : updV (tameL ⟨kd, key, val, dl⟩) = .agg #[.int .u8 ((1 + kd % 3 : Nat) : Int), .string (S ((key ++ [107]).take A)), .string (S (if 1 + kd % 3 = 1 then val.take B else [])), .int .u64 ((if 1 + kd % 3 = 3 then dl else 0 : Nat) : Int)] := by unfold tameL updV; simp only [hA, hB]
  have hr : IntKind.u8.wrap (1 + (kd : Int) % 3) = ((1 + kd % 3 : Nat) : Int) := by rw [IntKind.wrap_u8]; omega
  generalize (key ++ [107]).take A = K1 at *
  generalize val.take B = V1 at *
  rw [h] at hT hr
  have HT : Hid (updV (tameL ⟨kd, key, val, dl⟩) = .agg #[.int .u8 2, .string (S K1), .string (S []), .int .u64 0]) := Lib.hid (hT.trans (by simp))
  have hr' : IntKind.u8.wrap (1 + (kd : Int) % 3) = 2 := hr
  clear hT hr
  go_enter Try.func11, Try.ntmps11
  go_wp2_with fail
  go_region
  go_wp2_with fail
  go_region
  all_goals
    go_wp2_with fail
    exact bodyPost_ret (v := .tuple #[.agg #[.int .u8 2, .string (S K1), .string (S []), .int .u64 0], .agg #[.int .u8 2, .string (S K1), .string (S []), .int .u64 0]]) (by simp [results, Try.results11, go_sem]; rfl) rfl ⟨by rw [HT.out], by go_grown⟩

set_option maxRecDepth 100000 in
set_option maxHeartbeats 4000000 in
theorem tame_add (kd : Nat) (key val : List UInt8) (dl : Nat) (w : World) (hk : kd < 256) (hkl : key.length ≤ 140737488355328) (hvl : val.length ≤ 140737488355328) (h : kd % 3 = 2) :
    Calls Try.prog 11 #[.agg #[.int .u8 kd, .string (S key), .string (S val), .int .u64 dl]] w fun e w' => e = .returned (.tuple #[updV (tameL ⟨kd, key, val, dl⟩), updV (tameL ⟨kd, key, val, dl⟩)]) ∧ Below w.heap.size w w' := by
  have hmin := fun ts t a b w => run_tmin (P := Try.prog) ts t a b w
  have hm1 : tmin ((key.length : Int) + 1) 3 = ((min (key.length + 1) 3 : Nat) : Int) := tmin_nat (key.length + 1) 3
  have hm2 : tmin (val.length : Int) 20 = ((min val.length 20 : Nat) : Int) := tmin_nat val.length 20
  have hw : IntKind.i64.wrap ((key.length : Int) + 1) = (key.length : Int) + 1 := by rw [IntKind.wrap_i64]; omega
  have hlen : (key ++ [107]).length = key.length + 1 := by simp
  generalize hA : min (key.length + 1) 3 = A at *
  have hAl : A ≤ (key ++ [107]).length := by omega
  generalize hB : min val.length 20 = B at *
  have hBl : B ≤ val.length := by omega
  have hs1 : (S key ++ ⟨#[107]⟩).extract 0 A = S ((key ++ [107]).take A) := by rw [show (⟨#[107]⟩ : ByteArray) = S [107] from rfl, S_append, S_extract]; simp
  have hs2 := fun w => take_str val B hBl w
  have hT : updV (tameL ⟨kd, key, val, dl⟩) = .agg #[.int .u8 ((1 + kd % 3 : Nat) : Int), .string (S ((key ++ [107]).take A)), .string (S (if 1 + kd % 3 = 1 then val.take B else [])), .int .u64 ((if 1 + kd % 3 = 3 then dl else 0 : Nat) : Int)] := by unfold tameL updV; simp only [hA, hB]
  have hr : IntKind.u8.wrap (1 + (kd : Int) % 3) = ((1 + kd % 3 : Nat) : Int) := by rw [IntKind.wrap_u8]; omega
  generalize (key ++ [107]).take A = K1 at *
  generalize val.take B = V1 at *
  rw [h] at hT hr
  have HT : Hid (updV (tameL ⟨kd, key, val, dl⟩) = .agg #[.int .u8 3, .string (S K1), .string (S []), .int .u64 dl]) := Lib.hid (hT.trans (by simp))
  have hr' : IntKind.u8.wrap (1 + (kd : Int) % 3) = 3 := hr
  clear hT hr
  go_enter Try.func11, Try.ntmps11
  go_wp2_with fail
  go_region
  go_wp2_with fail
  go_region
  all_goals
    go_wp2_with fail
    exact bodyPost_ret (v := .tuple #[.agg #[.int .u8 3, .string (S K1), .string (S []), .int .u64 dl], .agg #[.int .u8 3, .string (S K1), .string (S []), .int .u64 dl]]) (by simp [results, Try.results11, go_sem]; rfl) rfl ⟨by rw [HT.out], by go_grown⟩

theorem tame_any (kd : Nat) (key val : List UInt8) (dl : Nat) (w : World) (hk : kd < 256) (hkl : key.length ≤ 140737488355328) (hvl : val.length ≤ 140737488355328) :
    Calls Try.prog 11 #[.agg #[.int .u8 kd, .string (S key), .string (S val), .int .u64 dl]] w fun e w' => e = .returned (.tuple #[updV (tameL ⟨kd, key, val, dl⟩), updV (tameL ⟨kd, key, val, dl⟩)]) ∧ Below w.heap.size w w' := by
  have hc : kd % 3 = 0 ∨ kd % 3 = 1 ∨ kd % 3 = 2 := by omega
  rcases hc with h | h | h
  · exact tame_put kd key val dl w hk hkl hvl h
  · exact tame_del kd key val dl w hk hkl hvl h
  · exact tame_add kd key val dl w hk hkl hvl h

end Go.Proofs.Ytcjeonamebnpfaa
