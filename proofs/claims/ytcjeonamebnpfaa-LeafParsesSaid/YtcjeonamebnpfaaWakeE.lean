/-
  The walk of the leaf statements' wakes.
-/
import Derived.Test.YtcjeonamebnpfaaLeafA
import Derived.Test.YtcjeonamebnpfaaLeafG
import Derived.Test.YtcjeonamebnpfaaLeafQ
namespace Go.Proofs.Ytcjeonamebnpfaa
open Go.RowKit

def wkA : Ent := ⟨[97], [49]⟩
def wkB : Ent := ⟨[98], [50]⟩
def wkC : Ent := ⟨[99], [51]⟩
def wkU : List Upd := [⟨1, [98], [50], 0⟩, ⟨1, [97], [49], 0⟩, ⟨1, [99], [51], 0⟩]
def wkD : List Upd := [⟨2, [98], [], 0⟩]
theorem wk_on : onAll [] wkU = [wkA, wkB, wkC] := by rfl
theorem wk_del : onAll [wkA, wkB, wkC] wkD = [wkA, wkC] := by rfl
theorem wkE_rising : Rising Ent.key [wkA, wkB, wkC] := by have := onAll_ok [] List.Pairwise.nil (fun e he => by simp at he) wkU; rw [wk_on] at this; exact this.1
theorem wkE_fine : FineE [wkA, wkB, wkC] := by have := onAll_ok [] List.Pairwise.nil (fun e he => by simp at he) wkU; rw [wk_on] at this; exact this.2.1
theorem wk_look : lookE [wkA, wkB, wkC] [98] = some [50] := by rfl

theorem slU_new (w : World) (t : TypeId) (fz : Nat × Nat) (us : List Upd) (cs : Array Value) (b n : Nat) (hb : w.heap.size = b) (hn : us.length = n) (hc : cs = (us.flatMap Upd.cells).toArray) (h0 : n ≤ 1000) : SlU (w.alloc (.cells cs t fz)) (.slice (some ⟨b, 0, none⟩) n n) us := by
  subst hb hn hc
  exact ⟨_, _, rfl, SlAt.new w _ _ _ us (fun x hx => rfl) (by simp), Nat.le_refl _, by omega, fun e => by simp at e⟩
theorem wkE1 (w : World) (b : Nat) (h : SlU w (.slice (some ⟨b, 0, none⟩) 3 3) wkU) :
    Calls Try.prog 16 #[.agg #[.slice none 0 0], .slice (some ⟨b, 0, none⟩) 3 3] w fun e w' => (∃ a c, e = .returned (.agg #[.slice a 3 c]) ∧ BoxE w' (.agg #[.slice a 3 c]) [wkA, wkB, wkC]) ∧ Below w.heap.size w w' := by
  have := leafOn_any (.agg #[.slice none 0 0]) [] (.slice (some ⟨b, 0, none⟩) 3 3) wkU w ⟨_, rfl, SlE.nil w⟩ (by decide) List.Pairwise.nil (fun e he => by simp at he) h (fun u hu => by simp [wkU] at hu; rcases hu with rfl | rfl | rfl <;> exact ⟨by decide, by decide⟩) (by decide)
  rw [wk_on] at this
  exact this
theorem wkE2 (w : World) (b : Nat) (a : Option Addr) (c : Nat) (hv : BoxE w (.agg #[.slice a 3 c]) [wkA, wkB, wkC]) (h : SlU w (.slice (some ⟨b, 0, none⟩) 1 1) wkD) :
    Calls Try.prog 16 #[.agg #[.slice a 3 c], .slice (some ⟨b, 0, none⟩) 1 1] w fun e w' => (∃ a' c', e = .returned (.agg #[.slice a' 2 c']) ∧ BoxE w' (.agg #[.slice a' 2 c']) [wkA, wkC]) ∧ Below w.heap.size w w' := by
  have := leafOn_any (.agg #[.slice a 3 c]) [wkA, wkB, wkC] (.slice (some ⟨b, 0, none⟩) 1 1) wkD w hv (by decide) wkE_rising wkE_fine h (fun u hu => by simp [wkD] at hu; subst hu; exact ⟨by decide, by decide⟩) (by decide)
  rw [wk_del] at this
  exact this
theorem wkE3 (w : World) (v : Value) (hv : BoxE w v [wkA, wkB, wkC]) : Calls Try.prog 34 #[v, .string ⟨#[98]⟩] w fun e w' => e = .returned (.tuple #[.string ⟨#[50]⟩, .bool true]) ∧ Below w.heap.size w w' := by
  have := getE_any v [wkA, wkB, wkC] [98] w hv (by decide) wkE_rising
  rw [wk_look] at this
  exact this
theorem wkE4 (w : World) (v : Value) (hv : BoxE w v [wkA, wkB, wkC]) : Calls Try.prog 17 #[v, .int .i64 2] w fun e w' => (∃ (b : Nat) (a : Option Addr) (c c' : Nat), e = .returned (.slice (some ⟨b, 0, none⟩) 2 c) ∧ w'.cell? ⟨b, 0, none⟩ = some (.slice a 2 c') ∧ BoxE w' (.agg #[.slice a 2 c']) [wkA, wkB] ∧ b < w'.heap.size) ∧ Below w.heap.size w w' := by
  refine (parts_any v [wkA, wkB, wkC] 2 w hv (by decide) (by decide)).mono ?_
  rintro e w' ⟨⟨v', rfl, vs, h1, h2⟩, hb⟩
  refine ⟨?_, hb⟩
  rw [show partsN [wkA, wkB, wkC].length (tmax 2 1).toNat = 2 by rfl] at h1 h2
  obtain ⟨a', c', rfl⟩ := own_form h1
  obtain ⟨g, rfl, -, hg, hrow⟩ := own_at h1 (by decide)
  obtain ⟨x, hx, a, c, B, rfl, ho⟩ := h2 0 (by decide)
  exact ⟨g, a, c', c, rfl, hrow 0 _ hx, BoxE.of_own ho, hg⟩

theorem wkE5 (w : World) (v : Value) (hv : BoxE w v [wkA, wkB, wkC]) : Calls Try.prog 19 #[v] w fun e w' => e = .returned (.int .i64 3) ∧ Below w.heap.size w w' := lenE v _ w hv
theorem wkE6 (w : World) (v : Value) (hv : BoxE w v [wkA, wkB]) : Calls Try.prog 19 #[v] w fun e w' => e = .returned (.int .i64 2) ∧ Below w.heap.size w w' := lenE v _ w hv

set_option maxRecDepth 100000 in
set_option maxHeartbeats 4000000 in
theorem wakesE_any (w : World) : Calls Try.prog 18 #[] w fun e w' => e = .returned (.bool true) ∧ Below w.heap.size w w' := by
  go_enter Try.func18, Try.ntmps18
  go_wp2_with fail
  refine (thread (wkE1 _ w.heap.size (slU_new w _ _ wkU _ _ _ rfl rfl rfl (by decide))) w.heap.size w (by go_grown) (by go_grown)).mono ?_
  rintro e w1 ⟨⟨a1, c1, rfl, hb1⟩, hB1, -, -, -, hz1⟩
  have H1 := Lib.hid hb1
  clear hb1
  go_wp2_with fail
  refine (thread (wkE2 _ (w1.heap.size + 1) a1 c1 (H1.out.kept (by go_grown) (Nat.le_refl _)) (slU_new _ _ _ wkD _ _ _ (by simp) rfl rfl (by decide))) w1.heap.size w1 (by go_grown) (by go_grown)).mono ?_
  rintro e w2 ⟨⟨a2, c2, rfl, hb2⟩, hX2, hk2, hf2, hs2, hz2⟩
  have p0 := (hk2 w1.heap.size 0 (by simp; omega)).trans (by simp [go_sem]; rfl)
  have hs2' : w1.heap.size < w2.heap.size := by simp at hs2; omega
  have H2 := Lib.hid (H1.out.kept hX2 (Nat.le_refl _))
  have G2 := Lib.hid hb2
  have hB2 := hB1.trans (hX2.mono hz1)
  clear hb2 H1 hX2 hk2 hf2 hs2 hB1
  go_wp2_with fail
  refine (thread (listE _ [wkA, wkC] _ (G2.out.kept (by go_grown) (Nat.le_refl _)) (by decide)) w2.heap.size w2 (by go_grown) (by go_grown)).mono ?_
  rintro e w3 ⟨⟨v3, rfl, hown3⟩, hX3, hk3, hf3, hs3, hz3⟩
  obtain ⟨a3, c3, e3⟩ := own_form hown3
  subst e3
  obtain ⟨g3, rfl, -, hg3, hrow3⟩ := own_at hown3 (by decide)
  have r0 : w3.cell? ⟨g3, 0, none⟩ = some (.string ⟨#[97]⟩) := hrow3 0 _ rfl
  have r1 : w3.cell? ⟨g3, 1, none⟩ = some (.string ⟨#[49]⟩) := hrow3 1 _ rfl
  have p1 := kept_cell hX3 p0
  have H3 := Lib.hid (H2.out.kept hX3 (Nat.le_refl _))
  have hB3 := hB2.trans (hX3.mono (by omega))
  have hg1 : w1.heap.size < w3.heap.size := by omega
  clear H2 G2 hX3 hk3 hf3 hs3 hB2 hrow3 p0 hown3
  go_wp2_with fail
  refine (thread (wkE3 _ _ (H3.out.kept (by go_grown) (Nat.le_refl _))) w3.heap.size w3 (by go_grown) (by go_grown)).mono ?_
  rintro e w4 ⟨rfl, hX4, hk4, hf4, hs4, hz4⟩
  have p2 := kept_cell hX4 p1
  have r2 := kept_cell hX4 r0
  have r3 := kept_cell hX4 r1
  have H4 := Lib.hid (H3.out.kept hX4 (Nat.le_refl _))
  have hB4 := hB3.trans (hX4.mono (by omega))
  clear H3 hX4 hk4 hf4 hs4 hB3 p1 r0 r1
  go_wp2_with fail
  refine (thread (wkE4 _ _ (H4.out.kept (by go_grown) (Nat.le_refl _))) w4.heap.size w4 (by go_grown) (by go_grown)).mono ?_
  rintro e w5 ⟨⟨b5, a5, c5, c5', rfl, t0, hb5, hbl⟩, hX5, hk5, hf5, hs5, hz5⟩
  have p3 := kept_cell hX5 p2
  have r4 := kept_cell hX5 r2
  have r5 := kept_cell hX5 r3
  have H5 := Lib.hid (H4.out.kept hX5 (Nat.le_refl _))
  have G5 := Lib.hid hb5
  have hB5 := hB4.trans (hX5.mono (by omega))
  clear H4 hX5 hk5 hf5 hs5 hB4 p2 r2 r3 hb5
  go_wp2_with fail
  refine (thread (wkE5 _ _ H5.out) w5.heap.size w5 (by go_grown) (by go_grown)).mono ?_
  rintro e w6 ⟨rfl, hX6, -, -, -, hz6⟩
  have p4 := kept_cell hX6 p3
  have r6 := kept_cell hX6 r4
  have r7 := kept_cell hX6 r5
  have t1 := kept_cell hX6 t0
  have G6 := Lib.hid (G5.out.kept hX6 (Nat.le_refl _))
  have hB6 := hB5.trans (hX6.mono (by omega))
  clear H5 hX6 hB5 p3 r4 r5 t0 G5
  go_wp2_with fail
  refine (thread (wkE6 _ _ G6.out) w6.heap.size w6 (by go_grown) (by go_grown)).mono ?_
  rintro e w7 ⟨rfl, hX7, -, -, -, hz7⟩
  have hB7 := hB6.trans (hX7.mono (by omega))
  go_wp2_with fail
  go_ret
  exact ⟨rfl, hB7⟩

end Go.Proofs.Ytcjeonamebnpfaa
