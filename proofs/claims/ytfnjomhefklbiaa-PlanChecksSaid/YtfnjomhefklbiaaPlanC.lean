/-
  The walk of the document's best plan, by trying all.
-/
import Derived.Test.YtfnjomhefklbiaaPlanB
import Derived.Deep.LoopGhost
namespace Go.Proofs.Ytfnjomhefklbiaa
open Go.RowKit

/-- No buffer above b, up to 64, has any leaf with which a plan has room. -/
def NoneAbove (F n b : Int) : Prop := ∀ b' l, b < b' → b' ≤ 64 → 2 ≤ l → l ≤ 64 → PlanL.check F b' l n ≠ 0
/-- Nor has b itself with a leaf above l. -/
def NoneBeside (F n b l : Int) : Prop := ∀ l', l < l' → l' ≤ 64 → PlanL.check F b l' n ≠ 0

theorem none_start (F n : Int) : NoneAbove F n 64 := fun b' _ h1 h2 => by omega
theorem beside_start (F n b : Int) : NoneBeside F n b 64 := fun l' h1 h2 => by omega
theorem none_next {F n b : Int} (h : NoneAbove F n b) (k : NoneBeside F n b 1) : NoneAbove F n (b - 1) := fun b' l h1 h2 h3 h4 => by
  by_cases e : b' = b
  · subst e; exact k l (by omega) h4
  · exact h b' l (by omega) h2 h3 h4
theorem beside_next {F n b l : Int} (k : NoneBeside F n b l) (h : PlanL.check F b l n ≠ 0) : NoneBeside F n b (l - 1) := fun l' h1 h2 => by
  by_cases e : l' = l
  · subst e; exact h
  · exact k l' (by omega) h2
/-- The first that is found is the best. -/
theorem best_found {F n b l : Int} (hn : ¬ (n < 128 ∨ 1024 < n ∨ F < 3 ∨ 16 < F)) (h : NoneAbove F n b) (k : NoneBeside F n b l) (hc : PlanL.check F b l n = 0) : PlanL.best n F = (F, b, l, 0) := by
  have hs := PlanL.best_some n F b l hc
  have hm := PlanL.best_more n F b l hc
  have hz := (PlanL.check_zero _ _ _ _).1 hs
  have e1 : PlanL.bB n F = b := by
    by_cases e : b < PlanL.bB n F
    · exact (h _ _ e (by omega) (by omega) (by omega) hs).elim
    · omega
  have e2 : PlanL.bL n = l := by
    by_cases e : l < PlanL.bL n
    · rw [e1] at hs
      exact (k _ e (by omega) hs).elim
    · omega
  rw [best_yes hn hs, e1, e2]
theorem best_none {F n : Int} (hn : ¬ (n < 128 ∨ 1024 < n ∨ F < 3 ∨ 16 < F)) (h : NoneAbove F n (F - 1)) : PlanL.best n F = (0, 0, 0, 20) :=
  best_no hn fun hs => by
    have hz := (PlanL.check_zero _ _ _ _).1 hs
    exact h _ _ (by omega) (by omega) (by omega) (by omega) hs

/-- The two structs of the call's own, as they were laid. -/
def Zeros (B : Nat) (w : World) : Prop :=
  (w.cell? ⟨B, 0, none⟩ = some (.int .i64 0) ∧ w.cell? ⟨B, 1, none⟩ = some (.int .i64 0) ∧ w.cell? ⟨B, 2, none⟩ = some (.int .i64 0)) ∧
  (w.cell? ⟨B + 1, 0, none⟩ = some (.int .i64 0) ∧ w.cell? ⟨B + 1, 1, none⟩ = some (.int .i64 0) ∧ w.cell? ⟨B + 1, 2, none⟩ = some (.int .i64 0)) ∧
  (∀ o, w.frozen? ⟨B, o, none⟩ = false) ∧ B + 1 < w.heap.size
theorem Zeros.kept {B : Nat} {w w' : World} (h : Zeros B w) (hs : w.heap.size ≤ w'.heap.size) (hc : ∀ b o, b < w.heap.size → w'.cell? ⟨b, o, none⟩ = w.cell? ⟨b, o, none⟩) (hf : ∀ b o, b < w.heap.size → w'.frozen? ⟨b, o, none⟩ = w.frozen? ⟨b, o, none⟩) : Zeros B w' := by
  obtain ⟨⟨a0, a1, a2⟩, ⟨b0, b1, b2⟩, f, l⟩ := h
  exact ⟨⟨(hc _ _ (by omega)).trans a0, (hc _ _ (by omega)).trans a1, (hc _ _ (by omega)).trans a2⟩, ⟨(hc _ _ (by omega)).trans b0, (hc _ _ (by omega)).trans b1, (hc _ _ (by omega)).trans b2⟩, fun o => (hf _ _ (by omega)).trans (f o), by omega⟩
theorem Zeros.alloc {B : Nat} {w : World} (h : Zeros B w) (o : Obj) : Zeros B (w.alloc o) :=
  h.kept (by simp) (fun b i hb => Below.cell (B := w.heap.size) (w := w) ((Below.refl _ _).alloc (Nat.le_refl _) o) (p := ⟨b, i, none⟩) hb) (fun b i hb => Below.frozen (B := w.heap.size) (w := w) ((Below.refl _ _).alloc (Nat.le_refl _) o) (p := ⟨b, i, none⟩) hb)

set_option maxHeartbeats 2000000 in
theorem refBest_any (n F : Int) (w : World) :
    Calls Try.prog 18 #[.int .i64 n, .int .i64 F] w fun e w' => e = .returned (bestV (PlanL.best n F)) ∧ Below w.heap.size w w' := by
  by_cases h : n < 128 ∨ 1024 < n ∨ F < 3 ∨ 16 < F
  · have Hb := Lib.hid (best_arg h)
    have H := Lib.hid h
    clear h
    go_enter Try.func18, Try.ntmps18
    go_wp2_with fail
    all_goals first
      | (go_returns; exact ⟨ret_val (by rw [Hb.out]; rfl), by go_grown⟩)
      | (exfalso; have := H.out; omega)
  · obtain ⟨h1, h2, h3, h4⟩ : 128 ≤ n ∧ n ≤ 1024 ∧ 3 ≤ F ∧ F ≤ 16 := by omega
    have H := Lib.hid h
    clear h
    go_enter Try.func18, Try.ntmps18
    go_wp2_with fail
    go_loopw [7] (fun b wr => ∃ k : Int, b = .int .i64 k ∧ F - 1 ≤ k ∧ k ≤ 64 ∧ NoneAbove F n k ∧ Zeros w.heap.size wr ∧ Below w.heap.size w wr) (fun b _ => (intOf b - F + 1).toNat)
    case atStart =>
      refine ⟨64, rfl, by omega, by omega, none_start F n, ?_, by go_grown⟩
      refine ⟨⟨?_, ?_, ?_⟩, ⟨?_, ?_, ?_⟩, ?_, ?_⟩
      all_goals first | (intro o; simp [go_sem]; done) | (simp [go_sem]; done)
    case round =>
      obtain ⟨b, rfl, hb1, hb2, hna, hZ, hB⟩ := hrel
      by_cases hlt : F ≤ b
      · go_wp2_with fail
        obtain ⟨wo, rfl⟩ : ∃ wo : World, wo = wr := ⟨_, rfl⟩
        go_loopw [8] (fun l wr => ∃ k : Int, l = .int .i64 k ∧ 1 ≤ k ∧ k ≤ 64 ∧ NoneBeside F n b k ∧ Zeros w.heap.size wr ∧ Below w.heap.size w wr) (fun l _ => (intOf l).toNat)
        case atStart => exact ⟨64, rfl, by omega, by omega, beside_start F n b, hZ, hB⟩
        case round =>
          obtain ⟨l, rfl, hl1, hl2, hnb, hZr, hBr⟩ := hrel
          have hz := hBr.size
          by_cases hll : 2 ≤ l
          · by_cases hc : PlanL.check F b l n = 0
            · have Hc := Lib.hid hc
              have Hb := Lib.hid (best_found H.out hna hnb hc)
              clear hna hnb hc
              have hZa := hZr.alloc (.cells #[.int .i64 F, .int .i64 b, .int .i64 l] 26)
              go_wp2_with (go_at_call 10; refine (thread (refCheck18_any _ _ _ _ _) w.heap.size w (by go_grown) (by go_grown)).mono ?_; rintro e w1 ⟨rfl, hB1, hc1, hf1, hs1, hz1⟩; rw [Hc.out]; obtain ⟨⟨a0, a1, a2⟩, ⟨b0, b1, b2⟩, hff, hlt1⟩ := hZa.kept hs1 hc1 hf1; have hl0 : wr.heap.size < w1.heap.size := Nat.lt_of_lt_of_le (by simp) hs1)
              exact bodyPost_ret (v := bestV (F, b, l, 0)) (by simp [results, Try.results18, go_sem, a0, a1, a2, bestV]) rfl ⟨ret_val (by rw [Hb.out]), by go_grown⟩
            · have hnb' := beside_next hnb hc
              generalize hg : PlanL.check F b l n = g at hc
              have Hc := Lib.hid hg
              have hne : (g == 0) = false := by simpa using hc
              clear hnb hc hg
              have hZa := hZr.alloc (.cells #[.int .i64 F, .int .i64 b, .int .i64 l] 26)
              go_wp2_with (go_at_call 10; refine (thread (refCheck18_any _ _ _ _ _) w.heap.size w (by go_grown) (by go_grown)).mono ?_; rintro e w1 ⟨rfl, hB1, hc1, hf1, hs1, hz1⟩; rw [Hc.out]; have hZ1 := hZa.kept hs1 hc1 hf1; have hl0 : wr.heap.size < w1.heap.size := Nat.lt_of_lt_of_le (by simp) hs1)
              go_roundw
              case rel => exact ⟨l - 1, by go_num, by omega, by omega, hnb', hZ1, hB1⟩
              case measure => simp [intOf]; omega
          · obtain rfl : l = 1 := by omega
            have hna' := none_next hna hnb
            clear hna hnb
            go_wp2_with fail
            go_roundw
            case rel => exact ⟨b - 1, by go_num, by omega, by omega, hna', hZr, hBr⟩
            case measure => simp [intOf]; omega
      · obtain rfl : b = F - 1 := by omega
        have Hb := Lib.hid (best_none H.out hna)
        obtain ⟨⟨a0, a1, a2⟩, ⟨b0, b1, b2⟩, hff, hlt1⟩ := hZ
        clear hna
        go_wp2_with fail
        exact bodyPost_ret (v := bestV (0, 0, 0, 20)) (by simp [results, Try.results18, go_sem, a0, a1, a2, bestV]) rfl ⟨ret_val (by rw [Hb.out]), by go_grown⟩

end Go.Proofs.Ytfnjomhefklbiaa
