/-
  The walk of law 29's of.
-/
import Derived.Test.YthcjcmalfnfjkaaZhb
import Derived.BigRegion
import Derived.Deep.RegionHeld3
namespace Go.Proofs.Ythcjcmalfnfjkaa
open Go.RowKit
set_option linter.unusedVariables false

/-- An update of few keys. -/
def ofH (u : Upd) : Upd := ⟨1 + u.kind % 3, (u.key ++ [107]).take (min (u.key.length + 1) 2), if 1 + u.kind % 3 = 1 then u.val.take (min u.val.length 32) else [], if 1 + u.kind % 3 = 3 then u.delta else 0⟩
theorem ofH_fits (u : Upd) (h : u.Wf) : (ofH u).Wf ∧ (ofH u).check = 0 := by
  have h0 := Nat.mod_lt u.kind (show 0 < 3 by decide)
  have h2 : u.delta < 18446744073709551616 := h.2
  have hk : 1 ≤ (ofH u).key.length ∧ (ofH u).key.length ≤ 2 := by
    show 1 ≤ ((u.key ++ [107]).take (min (u.key.length + 1) 2)).length ∧ ((u.key ++ [107]).take (min (u.key.length + 1) 2)).length ≤ 2
    rw [List.length_take, List.length_append, List.length_singleton]; omega
  have hv : (ofH u).val.length ≤ 32 := by
    show (if 1 + u.kind % 3 = 1 then u.val.take (min u.val.length 32) else []).length ≤ 32
    split
    · rw [List.length_take]; omega
    · simp
  refine ⟨⟨?_, ?_⟩, ?_⟩
  · show 1 + u.kind % 3 < 256; omega
  · show (if 1 + u.kind % 3 = 3 then u.delta else 0) < 18446744073709551616
    split
    · exact h2
    · omega
  · unfold Upd.check
    rw [if_neg (by omega), if_neg]
    rintro (h1 | h1 | h1 | h1)
    · have : (ofH u).kind = 1 + u.kind % 3 := rfl
      omega
    · have : (ofH u).kind = 1 + u.kind % 3 := rfl
      omega
    · refine h1.2 ?_
      have h3 : ¬ (1 + u.kind % 3 = 1) := h1.1
      show (if 1 + u.kind % 3 = 1 then _ else []) = []
      rw [if_neg h3]
    · refine h1.2 ?_
      have h3 : ¬ (1 + u.kind % 3 = 3) := h1.1
      show (if 1 + u.kind % 3 = 3 then _ else 0) = 0
      rw [if_neg h3]

theorem cell_atM (w : World) (cs : Array Value) (t : TypeId) (b o : Nat) (v : Value) (hb : w.heap.size = b) (hv : cs[o]? = some v) : (w.alloc (.cells cs t)).cell? ⟨b, o, none⟩ = some v := by
  rw [World.cell?_alloc_at _ _ _ _ hb.symm]; exact hv
set_option maxRecDepth 100000 in
set_option maxHeartbeats 4000000 in
theorem of_put (kd : Nat) (key val : List UInt8) (dl : Nat) (w : World) (hkd : kd < 256) (hkl : key.length ≤ 140737488355328) (hvl : val.length ≤ 140737488355328) (h : kd % 3 = 0) (T : Upd) (hT : ofH ⟨kd, key, val, dl⟩ = T) :
    Calls Try.prog 14 #[.agg #[.int .u8 kd, .string (S key), .string (S val), .int .u64 dl]] w fun e w' => e = .returned (.tuple #[.agg #[.int .u8 T.kind, .string (S T.key), .string (S T.val), .int .u64 T.delta], .agg #[.int .u8 T.kind, .string (S T.key), .string (S T.val), .int .u64 T.delta]]) ∧ Below w.heap.size w w' := by
  have hmin := fun ts t a b w => run_tmin (P := Try.prog) ts t a b w
  have hm1 : tmin ((key.length : Int) + 1) 2 = ((min (key.length + 1) 2 : Nat) : Int) := tmin_nat (key.length + 1) 2
  have hm2 : tmin (val.length : Int) 32 = ((min val.length 32 : Nat) : Int) := tmin_nat val.length 32
  have hT' : T = ⟨1, (key ++ [107]).take (min (key.length + 1) 2), val.take (min val.length 32), 0⟩ := by rw [← hT]; unfold ofH; simp [h]
  clear hT
  generalize hA : min (key.length + 1) 2 = A at *
  have hAl : A ≤ (key ++ [107]).length := by rw [List.length_append, List.length_singleton]; omega
  generalize hB : min val.length 32 = B at *
  have hBl : B ≤ val.length := by omega
  have hs1 : (S key ++ ⟨#[107]⟩).extract 0 A = S ((key ++ [107]).take A) := by rw [show (⟨#[107]⟩ : ByteArray) = S [107] from rfl, S_append, S_extract]; simp
  have hs2 := fun w => take_str val B hBl w
  have hlen : (key ++ [107]).length = key.length + 1 := by simp
  have hwr : IntKind.i64.wrap ((key.length : Int) + 1) = (key.length : Int) + 1 := IntWalk.i64_in _ (by omega)
  have hr3 : (kd : Int) % 3 = 0 := by omega
  generalize (key ++ [107]).take A = K1 at *
  generalize val.take B = V1 at *
  subst hT'
  clear h
  go_enter Try.func14, Try.ntmps14
  go_wp2_with fail
  go_big_region
  go_wp2_with fail
  go_region_held3 (fun w' => w'.cell? ⟨w.heap.size + 1 + 1 + 1, 0, none⟩ = some (.int .u8 1) ∧ w'.cell? ⟨w.heap.size + 1 + 1 + 1, 1, none⟩ = some (.string (S K1)) ∧ w'.cell? ⟨w.heap.size + 1 + 1 + 1, 2, none⟩ = some (.string (S V1)) ∧ w'.cell? ⟨w.heap.size + 1 + 1 + 1, 3, none⟩ = some (.int .u64 0))
    (first | assumption | exact ⟨cell_drew (cell_drew (cell_atM _ _ _ _ _ _ (by simp) rfl)), cell_drew (cell_drew (cell_atM _ _ _ _ _ _ (by simp) rfl)), cell_drew (cell_drew (cell_atM _ _ _ _ _ _ (by simp) rfl)), cell_drew (cell_drew (cell_atM _ _ _ _ _ _ (by simp) rfl))⟩ | exact ⟨cell_drew (cell_atM _ _ _ _ _ _ (by simp) rfl), cell_drew (cell_atM _ _ _ _ _ _ (by simp) rfl), cell_drew (cell_atM _ _ _ _ _ _ (by simp) rfl), cell_drew (cell_atM _ _ _ _ _ _ (by simp) rfl)⟩ | exact ⟨cell_atM _ _ _ _ _ _ (by simp) rfl, cell_atM _ _ _ _ _ _ (by simp) rfl, cell_atM _ _ _ _ _ _ (by simp) rfl, cell_atM _ _ _ _ _ _ (by simp) rfl⟩)
    (fail)
  all_goals
    go_wp2_with fail
    exact bodyPost_ret (v := .tuple #[.agg #[.int .u8 1, .string (S K1), .string (S V1), .int .u64 0], .agg #[.int .u8 1, .string (S K1), .string (S V1), .int .u64 0]]) (by simp [results, Try.results14, go_sem]) rfl ⟨rfl, by go_grown⟩

set_option maxRecDepth 100000 in
set_option maxHeartbeats 4000000 in
theorem of_del (kd : Nat) (key val : List UInt8) (dl : Nat) (w : World) (hkd : kd < 256) (hkl : key.length ≤ 140737488355328) (hvl : val.length ≤ 140737488355328) (h : kd % 3 = 1) (T : Upd) (hT : ofH ⟨kd, key, val, dl⟩ = T) :
    Calls Try.prog 14 #[.agg #[.int .u8 kd, .string (S key), .string (S val), .int .u64 dl]] w fun e w' => e = .returned (.tuple #[.agg #[.int .u8 T.kind, .string (S T.key), .string (S T.val), .int .u64 T.delta], .agg #[.int .u8 T.kind, .string (S T.key), .string (S T.val), .int .u64 T.delta]]) ∧ Below w.heap.size w w' := by
  have hmin := fun ts t a b w => run_tmin (P := Try.prog) ts t a b w
  have hm1 : tmin ((key.length : Int) + 1) 2 = ((min (key.length + 1) 2 : Nat) : Int) := tmin_nat (key.length + 1) 2
  have hm2 : tmin (val.length : Int) 32 = ((min val.length 32 : Nat) : Int) := tmin_nat val.length 32
  have hT' : T = ⟨2, (key ++ [107]).take (min (key.length + 1) 2), [], 0⟩ := by rw [← hT]; unfold ofH; simp [h]
  clear hT
  generalize hA : min (key.length + 1) 2 = A at *
  have hAl : A ≤ (key ++ [107]).length := by rw [List.length_append, List.length_singleton]; omega
  generalize hB : min val.length 32 = B at *
  have hBl : B ≤ val.length := by omega
  have hs1 : (S key ++ ⟨#[107]⟩).extract 0 A = S ((key ++ [107]).take A) := by rw [show (⟨#[107]⟩ : ByteArray) = S [107] from rfl, S_append, S_extract]; simp
  have hs2 := fun w => take_str val B hBl w
  have hlen : (key ++ [107]).length = key.length + 1 := by simp
  have hwr : IntKind.i64.wrap ((key.length : Int) + 1) = (key.length : Int) + 1 := IntWalk.i64_in _ (by omega)
  have hr3 : (kd : Int) % 3 = 1 := by omega
  generalize (key ++ [107]).take A = K1 at *
  generalize val.take B = V1 at *
  subst hT'
  clear h
  go_enter Try.func14, Try.ntmps14
  go_wp2_with fail
  go_big_region
  go_wp2_with fail
  go_region_held3 (fun w' => w'.cell? ⟨w.heap.size + 1 + 1 + 1, 0, none⟩ = some (.int .u8 2) ∧ w'.cell? ⟨w.heap.size + 1 + 1 + 1, 1, none⟩ = some (.string (S K1)) ∧ w'.cell? ⟨w.heap.size + 1 + 1 + 1, 2, none⟩ = some (.string ⟨#[]⟩) ∧ w'.cell? ⟨w.heap.size + 1 + 1 + 1, 3, none⟩ = some (.int .u64 0))
    (first | assumption | exact ⟨cell_drew (cell_drew (cell_atM _ _ _ _ _ _ (by simp) rfl)), cell_drew (cell_drew (cell_atM _ _ _ _ _ _ (by simp) rfl)), cell_drew (cell_drew (cell_atM _ _ _ _ _ _ (by simp) rfl)), cell_drew (cell_drew (cell_atM _ _ _ _ _ _ (by simp) rfl))⟩ | exact ⟨cell_drew (cell_atM _ _ _ _ _ _ (by simp) rfl), cell_drew (cell_atM _ _ _ _ _ _ (by simp) rfl), cell_drew (cell_atM _ _ _ _ _ _ (by simp) rfl), cell_drew (cell_atM _ _ _ _ _ _ (by simp) rfl)⟩ | exact ⟨cell_atM _ _ _ _ _ _ (by simp) rfl, cell_atM _ _ _ _ _ _ (by simp) rfl, cell_atM _ _ _ _ _ _ (by simp) rfl, cell_atM _ _ _ _ _ _ (by simp) rfl⟩)
    (fail)
  all_goals
    go_wp2_with fail
    exact bodyPost_ret (v := .tuple #[.agg #[.int .u8 2, .string (S K1), .string ⟨#[]⟩, .int .u64 0], .agg #[.int .u8 2, .string (S K1), .string ⟨#[]⟩, .int .u64 0]]) (by simp [results, Try.results14, go_sem]) rfl ⟨rfl, by go_grown⟩

set_option maxRecDepth 100000 in
set_option maxHeartbeats 4000000 in
theorem of_add (kd : Nat) (key val : List UInt8) (dl : Nat) (w : World) (hkd : kd < 256) (hkl : key.length ≤ 140737488355328) (hvl : val.length ≤ 140737488355328) (h : kd % 3 = 2) (T : Upd) (hT : ofH ⟨kd, key, val, dl⟩ = T) :
    Calls Try.prog 14 #[.agg #[.int .u8 kd, .string (S key), .string (S val), .int .u64 dl]] w fun e w' => e = .returned (.tuple #[.agg #[.int .u8 T.kind, .string (S T.key), .string (S T.val), .int .u64 T.delta], .agg #[.int .u8 T.kind, .string (S T.key), .string (S T.val), .int .u64 T.delta]]) ∧ Below w.heap.size w w' := by
  have hmin := fun ts t a b w => run_tmin (P := Try.prog) ts t a b w
  have hm1 : tmin ((key.length : Int) + 1) 2 = ((min (key.length + 1) 2 : Nat) : Int) := tmin_nat (key.length + 1) 2
  have hm2 : tmin (val.length : Int) 32 = ((min val.length 32 : Nat) : Int) := tmin_nat val.length 32
  have hT' : T = ⟨3, (key ++ [107]).take (min (key.length + 1) 2), [], dl⟩ := by rw [← hT]; unfold ofH; simp [h]
  clear hT
  generalize hA : min (key.length + 1) 2 = A at *
  have hAl : A ≤ (key ++ [107]).length := by rw [List.length_append, List.length_singleton]; omega
  generalize hB : min val.length 32 = B at *
  have hBl : B ≤ val.length := by omega
  have hs1 : (S key ++ ⟨#[107]⟩).extract 0 A = S ((key ++ [107]).take A) := by rw [show (⟨#[107]⟩ : ByteArray) = S [107] from rfl, S_append, S_extract]; simp
  have hs2 := fun w => take_str val B hBl w
  have hlen : (key ++ [107]).length = key.length + 1 := by simp
  have hwr : IntKind.i64.wrap ((key.length : Int) + 1) = (key.length : Int) + 1 := IntWalk.i64_in _ (by omega)
  have hr3 : (kd : Int) % 3 = 2 := by omega
  generalize (key ++ [107]).take A = K1 at *
  generalize val.take B = V1 at *
  subst hT'
  clear h
  go_enter Try.func14, Try.ntmps14
  go_wp2_with fail
  go_big_region
  go_wp2_with fail
  go_region_held3 (fun w' => w'.cell? ⟨w.heap.size + 1 + 1 + 1, 0, none⟩ = some (.int .u8 3) ∧ w'.cell? ⟨w.heap.size + 1 + 1 + 1, 1, none⟩ = some (.string (S K1)) ∧ w'.cell? ⟨w.heap.size + 1 + 1 + 1, 2, none⟩ = some (.string ⟨#[]⟩) ∧ w'.cell? ⟨w.heap.size + 1 + 1 + 1, 3, none⟩ = some (.int .u64 dl))
    (first | assumption | exact ⟨cell_drew (cell_drew (cell_atM _ _ _ _ _ _ (by simp) rfl)), cell_drew (cell_drew (cell_atM _ _ _ _ _ _ (by simp) rfl)), cell_drew (cell_drew (cell_atM _ _ _ _ _ _ (by simp) rfl)), cell_drew (cell_drew (cell_atM _ _ _ _ _ _ (by simp) rfl))⟩ | exact ⟨cell_drew (cell_atM _ _ _ _ _ _ (by simp) rfl), cell_drew (cell_atM _ _ _ _ _ _ (by simp) rfl), cell_drew (cell_atM _ _ _ _ _ _ (by simp) rfl), cell_drew (cell_atM _ _ _ _ _ _ (by simp) rfl)⟩ | exact ⟨cell_atM _ _ _ _ _ _ (by simp) rfl, cell_atM _ _ _ _ _ _ (by simp) rfl, cell_atM _ _ _ _ _ _ (by simp) rfl, cell_atM _ _ _ _ _ _ (by simp) rfl⟩)
    (fail)
  all_goals
    go_wp2_with fail
    exact bodyPost_ret (v := .tuple #[.agg #[.int .u8 3, .string (S K1), .string ⟨#[]⟩, .int .u64 dl], .agg #[.int .u8 3, .string (S K1), .string ⟨#[]⟩, .int .u64 dl]]) (by simp [results, Try.results14, go_sem]) rfl ⟨rfl, by go_grown⟩

theorem of_upd (u : Upd) (w : World) (hu : u.Wf) (h2 : u.key.length ≤ 140737488355328) (h3 : u.val.length ≤ 140737488355328) :
    Calls Try.prog 14 #[.agg #[.int .u8 u.kind, .string (S u.key), .string (S u.val), .int .u64 u.delta]] w fun e w' => (∃ T, ofH u = T ∧ e = .returned (.tuple #[.agg #[.int .u8 T.kind, .string (S T.key), .string (S T.val), .int .u64 T.delta], .agg #[.int .u8 T.kind, .string (S T.key), .string (S T.val), .int .u64 T.delta]])) ∧ Below w.heap.size w w' := by
  have h0 := Nat.mod_lt u.kind (show 0 < 3 by decide)
  have hc : u.kind % 3 = 0 ∨ u.kind % 3 = 1 ∨ u.kind % 3 = 2 := by omega
  rcases hc with h | h | h
  · exact (of_put u.kind u.key u.val u.delta w hu.1 h2 h3 h _ rfl).mono fun _ _ ⟨he, hb⟩ => ⟨⟨_, rfl, he⟩, hb⟩
  · exact (of_del u.kind u.key u.val u.delta w hu.1 h2 h3 h _ rfl).mono fun _ _ ⟨he, hb⟩ => ⟨⟨_, rfl, he⟩, hb⟩
  · exact (of_add u.kind u.key u.val u.delta w hu.1 h2 h3 h _ rfl).mono fun _ _ ⟨he, hb⟩ => ⟨⟨_, rfl, he⟩, hb⟩

end Go.Proofs.Ythcjcmalfnfjkaa
