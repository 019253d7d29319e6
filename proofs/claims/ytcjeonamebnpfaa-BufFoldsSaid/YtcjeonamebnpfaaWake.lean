/-
  The walk of wakes: what the document fixes.
-/
import Derived.Test.YtcjeonamebnpfaaBufW
import Derived.Test.YtcjeonamebnpfaaUpdB
import Derived.Test.YtcjeonamebnpfaaBufD
import Derived.Test.YtcjeonamebnpfaaBufG
namespace Go.Proofs.Ytcjeonamebnpfaa
open Go.RowKit

def wk1 : Upd := ⟨1, [107], le 4 8, 0⟩
def wk2 : Upd := ⟨3, [107], [], 3⟩
def wk : Upd := ⟨1, [107], le 7 8, 0⟩
theorem wk_rising (u : Upd) : Rising Upd.key [u] := List.pairwise_singleton _ _
theorem withL_one : withL [] wk1 = [wk1] := by
  unfold withL
  rw [dif_neg (by simp)]
  rfl
theorem joinL_wk : joinL wk1 wk2 = wk := by
  unfold joinL
  rw [if_neg (by decide), if_neg (by decide), onL_put [] false wk1 rfl]
  show (⟨1, wk2.key, (onL wk1.val true wk2).1, 0⟩ : Upd) = wk
  rw [onL_add8 _ _ rfl (by simp [wk1]), show wk1.val = le 4 8 from rfl, numL_le]
  rfl
theorem withL_two : withL [wk1] wk2 = [wk] := by
  have hb : below Upd.key [wk1] wk2.key = 0 := by kernel_rfl
  have hh : hasKey Upd.key [wk1] wk2.key = true := by kernel_rfl
  unfold withL
  rw [dif_pos ⟨by rw [hb]; exact Nat.zero_lt_one, hh⟩]
  simp only [hb]
  show [joinL wk1 wk2] = [wk]
  rw [joinL_wk]
theorem cutIn_wk : cutIn [wk] [107] [108] = [wk] := by
  have e1 : below Upd.key [wk] [107] = 0 := by kernel_rfl
  have e2 : below Upd.key [wk] [108] = 1 := by kernel_rfl
  unfold cutIn cutEnd
  rw [if_neg (by decide), e1, e2]
  rfl
theorem cutOut_wk : cutOut [wk] [107] [108] = [] := by
  have e1 : below Upd.key [wk] [107] = 0 := by kernel_rfl
  have e2 : below Upd.key [wk] [108] = 1 := by kernel_rfl
  unfold cutOut cutEnd
  rw [if_neg (by decide), e1, e2]
  rfl
theorem getL_wk : getL [wk] [107] = some wk := by
  unfold getL
  rw [List.find?_cons_of_pos (by kernel_rfl)]

theorem wake1 (w : World) : Calls Try.prog 12 #[.agg #[.slice none 0 0], .agg #[.int .u8 1, .string ⟨#[107]⟩, .string (S (le 4 8)), .int .u64 0]] w fun e w' => (∃ a c, e = .returned (.agg #[.slice a 1 c]) ∧ BoxU w' (.agg #[.slice a 1 c]) [wk1]) ∧ Below w.heap.size w w' := by
  have h := with_any (.agg #[.slice none 0 0]) [] 1 [107] (le 4 8) 0 w ⟨_, rfl, SlU.nil w⟩ (by simp) List.Pairwise.nil (fun u hu => by simp at hu) (by decide) (by decide)
  refine h.mono ?_
  rintro e w' ⟨⟨v, he, hv⟩, hb⟩
  rw [show withL [] ⟨1, [107], le 4 8, 0⟩ = [wk1] from withL_one] at hv
  obtain ⟨a, c, rfl, hs⟩ := hv.open
  exact ⟨⟨a, c, he, hs⟩, hb⟩
theorem wake2 (s : Value) (w : World) (h : BoxU w (.agg #[s]) [wk1]) : Calls Try.prog 12 #[.agg #[s], .agg #[.int .u8 3, .string ⟨#[107]⟩, .string ⟨#[]⟩, .int .u64 3]] w fun e w' => (∃ a c, e = .returned (.agg #[.slice a 1 c]) ∧ BoxU w' (.agg #[.slice a 1 c]) [wk]) ∧ Below w.heap.size w w' := by
  have h := with_any (.agg #[s]) [wk1] 3 [107] [] 3 w h (by simp) (wk_rising _) (fun u hu => by simp at hu; subst hu; exact ⟨⟨by decide, by decide⟩, by simp [wk1]⟩) (by decide) (by decide)
  refine h.mono ?_
  rintro e w' ⟨⟨v, he, hv⟩, hb⟩
  rw [show withL [wk1] ⟨3, [107], [], 3⟩ = [wk] from withL_two] at hv
  obtain ⟨a, c, rfl, hs⟩ := hv.open
  exact ⟨⟨a, c, he, hs⟩, hb⟩
theorem wake3 (s : Value) (w : World) (h : BoxU w (.agg #[s]) [wk]) : Calls Try.prog 23 #[.agg #[s], .string ⟨#[107]⟩] w fun e w' => e = .returned (.tuple #[.agg #[.int .u8 1, .string (S [107]), .string (S (le 7 8)), .int .u64 0], .bool true]) ∧ Below w.heap.size w w' := by
  have h := get_any (.agg #[s]) [wk] [107] w h (by simp) (wk_rising _)
  rw [getL_wk] at h
  exact h
theorem wake4 (s : Value) (w : World) (h : BoxU w (.agg #[s]) [wk]) : Calls Try.prog 15 #[.agg #[s], .string ⟨#[107]⟩, .string ⟨#[108]⟩] w fun e w' => (∃ a1 c1 a2 c2, e = .returned (.tuple #[.agg #[.slice a1 1 c1], .agg #[.slice a2 0 c2]]) ∧ BoxU w' (.agg #[.slice a1 1 c1]) [wk] ∧ BoxU w' (.agg #[.slice a2 0 c2]) []) ∧ Below w.heap.size w w' := by
  have h := cut_any (.agg #[s]) [wk] [107] [108] w h (by simp) (wk_rising _)
  rw [cutIn_wk, cutOut_wk] at h
  refine h.mono ?_
  rintro e w' ⟨⟨v1, v2, he, h1, h2⟩, hb⟩
  obtain ⟨a1, c1, rfl, hs1⟩ := h1.open
  obtain ⟨a2, c2, rfl, hs2⟩ := h2.open
  exact ⟨⟨a1, c1, a2, c2, he, hs1, hs2⟩, hb⟩

structure WkOn (w w5 w' : World) : Prop where
  low : Below w.heap.size w w'
  mid : Below w5.heap.size w5 w'
theorem WkOn.on {w w5 w' w'' : World} (h : WkOn w w5 w') (hw : w.heap.size ≤ w5.heap.size) (hb : Below w'.heap.size w' w'') : WkOn w w5 w'' :=
  ⟨h.low.trans (hb.mono (Nat.le_trans hw h.mid.size)), h.mid.trans (hb.mono h.mid.size)⟩

set_option maxRecDepth 100000 in
set_option maxHeartbeats 4000000 in
theorem wakes_any (w : World) : Calls Try.prog 14 #[] w fun e w' => e = .returned (.bool true) ∧ Below w.heap.size w w' := by
  go_enter Try.func14, Try.ntmps14
  go_wp2_with fail
  refine (thread (value_any 4 (by decide) _) w.heap.size w (by go_grown) (by go_grown)).mono ?_
  rintro e w1 ⟨rfl, hB1, -, -, -, hz1⟩
  go_wp2_with fail
  refine (thread (wake1 _) w.heap.size w hB1 hz1).mono ?_
  rintro e w2 ⟨⟨a2, c2, rfl, hb2⟩, hB2, -, -, -, hz2⟩
  go_wp2_with fail
  refine (thread (wake2 _ _ hb2) w.heap.size w hB2 hz2).mono ?_
  rintro e w3 ⟨⟨a3, c3, rfl, hb3⟩, hB3, -, -, -, hz3⟩
  clear hb2 hB1 hB2 hz1 hz2
  have HB3 := Lib.hid hb3
  clear hb3
  go_wp2_with fail
  refine (thread (wake3 _ _ (HB3.out.kept (by go_grown) (Nat.le_refl _))) w3.heap.size w3 (by go_grown) (by go_grown)).mono ?_
  rintro e w4 ⟨rfl, hX4, hk4, hf4, hs4, hz4⟩
  have hB4 := hB3.trans (hX4.mono hz3)
  have p0 := (hk4 w3.heap.size 0 (by simp)).trans (by simp [go_sem]; rfl)
  have hs4' : w3.heap.size < w4.heap.size := by simp at hs4; omega
  have HB4 : Hid (BoxU w4 (.agg #[.slice a3 1 c3]) [wk]) := Lib.hid (HB3.out.kept hX4 (Nat.le_refl _))
  clear hk4 hf4 hs4 hX4
  go_wp2_with fail
  refine (thread (wake4 _ _ (HB4.out.kept (by go_grown) (Nat.le_refl _))) w4.heap.size w4 (by go_grown) (by go_grown)).mono ?_
  rintro e w5 ⟨⟨a5, c5, a6, c6, rfl, hb5, hb6⟩, hX5, hk5, hf5, hs5, hz5⟩
  have hB5 := hB4.trans (hX5.mono (by omega))
  have q0 := (hk5 w3.heap.size 0 (by simp; omega)).trans (cell_past _ p0)
  have q1 := (hk5 w4.heap.size 2 (by simp)).trans (by simp [go_sem]; rfl)
  have hs5' : w4.heap.size < w5.heap.size := by simp at hs5; omega
  have HB5 : Hid (BoxU w5 (.agg #[.slice a3 1 c3]) [wk]) := Lib.hid (HB4.out.kept hX5 (Nat.le_refl _))
  have HC5 := Lib.hid hb5
  have HD5 := Lib.hid hb6
  have hz5' : w.heap.size ≤ w5.heap.size := by omega
  clear hk5 hf5 hs5 hX5 hb5 hb6
  go_wp2_with fail
  go_region_held3 (fun w' => w'.cell? ⟨w3.heap.size, 0, none⟩ = some (.slice a3 1 c3) ∧ w'.cell? ⟨w4.heap.size, 2, none⟩ = some (.string (S (le 7 8))) ∧ w'.cell? ⟨w5.heap.size, 0, none⟩ = some (.slice a5 1 c5) ∧ w'.cell? ⟨w5.heap.size + 1, 0, none⟩ = some (.slice a6 0 c6) ∧ WkOn w w5 w')
  (first | assumption | (refine ⟨cell_past _ (cell_past _ q0), cell_past _ (cell_past _ q1), cell_past _ (by simp), by simp, ⟨by go_grown, by go_grown⟩⟩) | exact ⟨y0, y1, y2, y3, y4⟩ | exact ⟨z0, z1, z2, z3, z4⟩)
  (first
    | (go_at_call 22; with_reducible show Calls _ _ #[.agg #[.slice a3 1 c3]] _ _; go_must (obtain ⟨x0, x1, x2, x3, x4⟩ := ‹_ ∧ _›; refine (lenU _ _ _ (HB5.out.kept x4.mid (Nat.le_refl _))).mono ?_; rintro e w6 ⟨rfl, hb6⟩; have y0 := kept_cell hb6 x0; have y1 := kept_cell hb6 x1; have y2 := kept_cell hb6 x2; have y3 := kept_cell hb6 x3; have y4 := x4.on hz5' hb6))
    | (go_at_call 22; with_reducible show Calls _ _ #[.agg #[.slice a5 1 c5]] _ _; go_must (obtain ⟨x0, x1, x2, x3, x4⟩ := ‹_ ∧ _›; refine (lenU _ _ _ (HC5.out.kept x4.mid (Nat.le_refl _))).mono ?_; rintro e w6 ⟨rfl, hb6⟩; have y0 := kept_cell hb6 x0; have y1 := kept_cell hb6 x1; have y2 := kept_cell hb6 x2; have y3 := kept_cell hb6 x3; have y4 := x4.on hz5' hb6))
    | (go_at_call 22; with_reducible show Calls _ _ #[.agg #[.slice a6 0 c6]] _ _; go_must (obtain ⟨x0, x1, x2, x3, x4⟩ := ‹_ ∧ _›; refine (lenU _ _ _ (HD5.out.kept x4.mid (Nat.le_refl _))).mono ?_; rintro e w6 ⟨rfl, hb6⟩; have y0 := kept_cell hb6 x0; have y1 := kept_cell hb6 x1; have y2 := kept_cell hb6 x2; have y3 := kept_cell hb6 x3; have y4 := x4.on hz5' hb6))
    | (go_at_call 49; go_must (obtain ⟨x0, x1, x2, x3, x4⟩ := ‹_ ∧ _›; refine (value_any 7 (by decide) _).mono ?_; rintro e w6 ⟨rfl, hb6⟩; have y0 := kept_cell hb6 x0; have y1 := kept_cell hb6 x1; have y2 := kept_cell hb6 x2; have y3 := kept_cell hb6 x3; have y4 := x4.on hz5' hb6)))
  obtain ⟨-, -, -, -, hend⟩ := ‹_ ∧ _›
  clear HB3 HB4 HB5 HC5 HD5
  go_wp2_with fail
  go_ret
  exact ⟨rfl, hend.low⟩

end Go.Proofs.Ytcjeonamebnpfaa
