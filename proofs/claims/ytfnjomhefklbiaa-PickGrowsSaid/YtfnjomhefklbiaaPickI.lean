/-
  The walks of container/heap's Init and Pop over the places.
-/
import Derived.Test.YtfnjomhefklbiaaPickD
namespace Go.Proofs.Ytfnjomhefklbiaa
open Go.RowKit

theorem by_Pop (k : Nat) (a : Addr) (w : World) : (method (k + 1) 70 (.pointer (some a)) "Pop").run Try.prog w = .ok (58, .pointer (some a)) w := call_Pop k a w
theorem downL_length : ∀ (f : Nat) (l : List (Int × Int)) (i n : Nat), (downL f l i n).length = l.length
  | 0, _, _, _ => rfl
  | f + 1, l, i, n => by
    unfold downL
    split
    · split
      · rw [downL_length f, swapL_length]
      · rfl
    · rfl
/-- All parents below k, the last one first. -/
def initL (n : Nat) : Nat → List (Int × Int) → List (Int × Int)
  | 0, l => l
  | k + 1, l => initL n k (downL n l k n)
theorem initL_length (n : Nat) : ∀ (k : Nat) (l : List (Int × Int)), (initL n k l).length = l.length
  | 0, _ => rfl
  | k + 1, l => by rw [initL, initL_length n k, downL_length]

set_option maxHeartbeats 1000000 in
theorem init_any (p g cap : Nat) (l : List (Int × Int)) (w : World) (h : HeapAt p g cap l w) (hl : l.length ≤ 1000000000) :
    Calls Try.prog 38 #[.iface 70 (.pointer (some ⟨p, 0, none⟩))] w fun e w' => e = .returned (.tuple #[]) ∧ HeapAt p g cap (initL l.length (l.length / 2) l) w' ∧ Only2 p g w w' := by
  have hLen := fun k a w => by_Len k a w
  have hd := h.head
  go_enter Try.func38, Try.ntmps38
  go_wp2_with (go_at_call 34; refine (places_len _ _ _ _).mono ?_; rintro e w1 ⟨rfl, rfl⟩)
  go_loopw [3] (fun i wr => ∃ (k : Nat) (l' : List (Int × Int)), i = .int .i64 ((k : Int) - 1) ∧ k ≤ l.length / 2 ∧ Hid (l'.length = l.length) ∧ HeapAt p g cap l' wr ∧ Hid (initL l.length k l' = initL l.length (l.length / 2) l) ∧ Only2 p g w wr) (fun i _ => (intOf i + 1).toNat)
  case atStart => exact ⟨l.length / 2, l, by go_num, Nat.le_refl _, Lib.hid rfl, h, Lib.hid rfl, Only2.refl _ _ _⟩
  case round =>
    obtain ⟨k, l', rfl, hk, hl', hH, hin, hO⟩ := hrel
    cases k with
    | zero =>
      have h0 : ¬ (0 ≤ ((0 : Nat) : Int) - 1) := by omega
      go_wp2_with fail
      go_end0
      exact ⟨rfl, by rw [← hin.out]; exact hH, hO⟩
    | succ k =>
      have hk' : k < l.length / 2 := by omega
      go_wp2_with fail
      have hc := down_any p g cap l' k l.length wr hH (by omega) (by omega) (by rw [hl'.out]; omega) (by omega) (by rw [hl'.out]; omega)
      rw [Int.toNat_natCast, Int.toNat_natCast] at hc
      refine hc.mono ?_
      rintro e w1 ⟨⟨b, rfl⟩, HH, hO1⟩
      clear hc
      go_wp2_with fail
      go_roundw
      case rel => exact ⟨k, _, rfl, by omega, Lib.hid (by rw [downL_length]; exact hl'.out), HH, Lib.hid (by rw [← hin.out]; rfl), hO.trans hO1⟩
      case measure => first | (simp [intOf]; done) | (simp [intOf]; omega)

/-- One less: the first one goes, the last one stands in its place and goes down. -/
def popL (l : List (Int × Int)) : List (Int × Int) := downL (l.length - 1) (swapL l 0 (l.length - 1)) 0 (l.length - 1)
theorem popL_length (l : List (Int × Int)) : (popL l).length = l.length := by rw [popL, downL_length, swapL_length]

set_option maxHeartbeats 1000000 in
theorem pop_any (p g cap : Nat) (l : List (Int × Int)) (w : World) (h : HeapAt p g cap l w) (hl : l.length ≤ 1000000000) (h0 : 0 < l.length) (r : List (Int × Int)) (x : Int × Int) (hr : popL l = r ++ [x]) :
    Calls Try.prog 35 #[.iface 70 (.pointer (some ⟨p, 0, none⟩))] w fun e w' => e = .returned (.iface 73 (.agg #[.int .i64 x.1, .int .i64 x.2])) ∧ HeapAt p g cap r w' ∧ Only2 p g w w' := by
  have hLen := fun k a w => by_Len k a w
  have hSwap := fun k a w => by_Swap k a w
  have hPop := fun k a w => by_Pop k a w
  have hd := h.head
  go_enter Try.func35, Try.ntmps35
  go_wp2_with (go_at_call 34; refine (places_len _ _ _ _).mono ?_; rintro e w1 ⟨rfl, rfl⟩)
  have hc := swap_call p g cap l 0 ((l.length : Int) - 1) w h (by omega) (by omega) (by omega) (by omega)
  rw [show ((l.length : Int) - 1).toNat = l.length - 1 by omega, show (0 : Int).toNat = 0 from rfl] at hc
  refine hc.mono ?_
  rintro e w1 ⟨rfl, H1, hO1⟩
  clear hc
  go_wp2_with fail
  have hc := down_any p g cap _ 0 ((l.length : Int) - 1) w1 H1 (by omega) (by omega) (by rw [swapL_length]; omega) (by omega) (by rw [swapL_length]; omega)
  rw [show ((l.length : Int) - 1).toNat = l.length - 1 by omega, show (0 : Int).toNat = 0 from rfl] at hc
  refine hc.mono ?_
  rintro e w2 ⟨⟨b, rfl⟩, H2, hO2⟩
  clear hc
  have H2' : HeapAt p g cap (r ++ [x]) w2 := by rw [← hr]; exact H2
  clear H2
  go_wp2_with (go_at_call 58; refine (places_pop p g cap r x _ H2').mono ?_; rintro e w3 ⟨rfl, H3, hO3⟩)
  go_ret
  exact ⟨rfl, H3, hO1.trans (hO2.trans hO3)⟩

end Go.Proofs.Ytfnjomhefklbiaa
