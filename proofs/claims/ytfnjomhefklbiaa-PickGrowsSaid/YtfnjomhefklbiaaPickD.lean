/-
  The walk of container/heap's down over the places.
-/
import Derived.Test.YtfnjomhefklbiaaPickH
namespace Go.Proofs.Ytfnjomhefklbiaa
open Go.RowKit

/-- What a call through the interface comes to: by what the header's cell holds. -/
def methAt (P : Program) (t : TypeId) (name : String) (f : FuncId) (k : Nat) (a : Addr) (w : World) : Option Value → Result (FuncId × Value)
  | some v => .ok (f, v) w
  | none => (method (k + 1) t (.pointer (some a)) name).run P w
@[go_sem] theorem methAt_some (P : Program) (t : TypeId) (name : String) (f : FuncId) (k : Nat) (a : Addr) (w : World) (v : Value) : methAt P t name f k a w (some v) = .ok (f, v) w := rfl
theorem by_Len (k : Nat) (a : Addr) (w : World) : (method (k + 1) 70 (.pointer (some a)) "Len").run Try.prog w = methAt Try.prog 70 "Len" 34 k a w (w.cell? a) := by
  cases h : w.cell? a with
  | none => rfl
  | some v => exact call_Len k a v w h
theorem by_Less (k : Nat) (a : Addr) (w : World) : (method (k + 1) 70 (.pointer (some a)) "Less").run Try.prog w = methAt Try.prog 70 "Less" 57 k a w (w.cell? a) := by
  cases h : w.cell? a with
  | none => rfl
  | some v => exact call_Less k a v w h
theorem by_Swap (k : Nat) (a : Addr) (w : World) : (method (k + 1) 70 (.pointer (some a)) "Swap").run Try.prog w = methAt Try.prog 70 "Swap" 59 k a w (w.cell? a) := by
  cases h : w.cell? a with
  | none => rfl
  | some v => exact call_Swap k a v w h

/-- A place of a list. -/
def pl (l : List (Int × Int)) (i : Nat) : Int × Int := l.getD i (0, 0)
theorem pl_get {l : List (Int × Int)} {i : Nat} (h : i < l.length) : pl l i = l[i] := by simp [pl, h]

theorem less_call (p g cap : Nat) (l : List (Int × Int)) (i k : Int) (w : World) (h : HeapAt p g cap l w) (i0 : 0 ≤ i) (hi : i < l.length) (k0 : 0 ≤ k) (hk : k < l.length) :
    Calls Try.prog 57 #[.slice (some ⟨g, 0, none⟩) l.length cap, .int .i64 i, .int .i64 k] w fun e w' => e = .returned (.bool (ahead (pl l i.toNat) (pl l k.toNat))) ∧ ∃ m, w' = w.drewN m := by
  obtain ⟨a, rfl⟩ := Int.eq_ofNat_of_zero_le i0
  obtain ⟨b, rfl⟩ := Int.eq_ofNat_of_zero_le k0
  have ha : a < l.length := by omega
  have hb : b < l.length := by omega
  rw [Int.toNat_natCast, Int.toNat_natCast, pl_get ha, pl_get hb]
  exact places_less g l.length cap a b l[a] l[b] w ha hb (h.cells a ha).1 (h.cells a ha).2 (h.cells b hb).1 (h.cells b hb).2
theorem swap_call (p g cap : Nat) (l : List (Int × Int)) (i k : Int) (w : World) (h : HeapAt p g cap l w) (i0 : 0 ≤ i) (hi : i < l.length) (k0 : 0 ≤ k) (hk : k < l.length) :
    Calls Try.prog 59 #[.slice (some ⟨g, 0, none⟩) l.length cap, .int .i64 i, .int .i64 k] w fun e w' => e = .returned (.tuple #[]) ∧ HeapAt p g cap (swapL l i.toNat k.toNat) w' ∧ Only2 p g w w' := by
  obtain ⟨a, rfl⟩ := Int.eq_ofNat_of_zero_le i0
  obtain ⟨b, rfl⟩ := Int.eq_ofNat_of_zero_le k0
  rw [Int.toNat_natCast, Int.toNat_natCast]
  exact places_swap_any p g cap l a b w h (by omega) (by omega)

/-- Which child goes up. -/
def childL (l : List (Int × Int)) (i n : Nat) : Nat := if 2 * i + 2 < n ∧ ahead (pl l (2 * i + 2)) (pl l (2 * i + 1)) = true then 2 * i + 2 else 2 * i + 1
/-- One goes down. -/
def downL : Nat → List (Int × Int) → Nat → Nat → List (Int × Int)
  | 0, l, _, _ => l
  | f + 1, l, i, n =>
    if 2 * i + 1 < n then
      if ahead (pl l (childL l i n)) (pl l i) = true then downL f (swapL l i (childL l i n)) (childL l i n) n else l
    else l
theorem downL_go {f i n : Nat} {l : List (Int × Int)} (h : 2 * i + 1 < n) (k : ahead (pl l (childL l i n)) (pl l i) = true) : downL (f + 1) l i n = downL f (swapL l i (childL l i n)) (childL l i n) n := by
  rw [downL, if_pos h, if_pos k]
theorem downL_stay {f i n : Nat} {l : List (Int × Int)} (h : 2 * i + 1 < n) (k : ahead (pl l (childL l i n)) (pl l i) = false) : downL (f + 1) l i n = l := by
  rw [downL, if_pos h, if_neg (by rw [k]; simp)]
theorem downL_leaf {f i n : Nat} {l : List (Int × Int)} (h : ¬ 2 * i + 1 < n) : downL f l i n = l := by
  cases f with
  | zero => rfl
  | succ f => rw [downL, if_neg h]
theorem childL_lt {l : List (Int × Int)} {i n : Nat} (h : 2 * i + 1 < n) : childL l i n < n ∧ i < childL l i n := by
  unfold childL; split <;> omega

/-- Some bool comes back. -/
def SomeBool (e : Ending) : Prop := ∃ b : Bool, e = .returned (.bool b)

set_option maxHeartbeats 2000000 in
theorem down_any (p g cap : Nat) (l : List (Int × Int)) (i n : Int) (w : World) (h : HeapAt p g cap l w) (i0 : 0 ≤ i) (n0 : 0 ≤ n) (hn : n ≤ l.length) (hin : i ≤ n) (hl : l.length ≤ 1000000000) :
    Calls Try.prog 39 #[.iface 70 (.pointer (some ⟨p, 0, none⟩)), .int .i64 i, .int .i64 n] w fun e w' => SomeBool e ∧ HeapAt p g cap (downL n.toNat l i.toNat n.toNat) w' ∧ Only2 p g w w' := by
  have hLess := fun k a w => by_Less k a w
  have hSwap := fun k a w => by_Swap k a w
  obtain ⟨a, rfl⟩ := Int.eq_ofNat_of_zero_le i0
  obtain ⟨b, rfl⟩ := Int.eq_ofNat_of_zero_le n0
  rw [Int.toNat_natCast, Int.toNat_natCast]
  have hab : a ≤ b := by omega
  go_enter Try.func39, Try.ntmps39
  go_wp2_with fail
  go_loopw [7] (fun j wr => ∃ (k f : Nat) (l' : List (Int × Int)), j = .int .i64 k ∧ k ≤ b ∧ b ≤ k + f ∧ Hid (l'.length = l.length) ∧ HeapAt p g cap l' wr ∧ Hid (downL f l' k b = downL b l a b) ∧ Only2 p g w wr) (fun j _ => b - (intOf j).toNat)
  case atStart => exact ⟨a, b, l, rfl, hab, by omega, Lib.hid rfl, h, Lib.hid rfl, Only2.refl _ _ _⟩
  case round =>
    obtain ⟨k, f, l', rfl, hkb, hfb, hl', hH, hdn, hO⟩ := hrel
    have hd := hH.head
    have hn' : b ≤ l'.length := by rw [hl'.out]; omega
    have hl2 : l'.length ≤ 1000000000 := by rw [hl'.out]; omega
    by_cases h1 : 2 * k + 1 < b
    · obtain ⟨f, rfl⟩ : ∃ f', f = f' + 1 := ⟨f - 1, by omega⟩
      have hc := childL_lt (l := l') h1
      by_cases h2 : 2 * k + 2 < b
      · go_wp2_with fail
        have hc1 := less_call p g cap l' (2 * (k : Int) + 1 + 1) (2 * (k : Int) + 1) wr hH (by omega) (by omega) (by omega) (by omega)
        rw [show (2 * (k : Int) + 1 + 1).toNat = 2 * k + 2 by omega, show (2 * (k : Int) + 1).toNat = 2 * k + 1 by omega] at hc1
        refine hc1.mono ?_
        rintro e w1 ⟨rfl, m1, rfl⟩
        have HH := hH.drewN m1
        have hd1 := HH.head
        cases hb1 : ahead (pl l' (2 * k + 2)) (pl l' (2 * k + 1)) with
        | true =>
          have Hc := Lib.hid (show childL l' k b = 2 * k + 2 by unfold childL; rw [if_pos ⟨h2, hb1⟩])
          clear hb1 hc1
          have hcl : 2 * k + 2 < b := by omega
          go_wp2_with fail
          have hc2 := less_call p g cap l' (2 * (k : Int) + 1 + 1) k _ HH (by omega) (by omega) (by omega) (by omega)
          rw [show (2 * (k : Int) + 1 + 1).toNat = 2 * k + 2 by omega, Int.toNat_natCast] at hc2
          refine hc2.mono ?_
          rintro e w2 ⟨rfl, m2, rfl⟩
          cases hb2 : ahead (pl l' (2 * k + 2)) (pl l' k) with
          | true =>
            have hdg := Lib.hid (downL_go (f := f) h1 (by rw [Hc.out]; exact hb2))
            rw [Hc.out] at hdg
            clear hc2 hb2
            have HH2 := hH.drewN (m1 + m2)
            have hd2 := HH2.head
            go_wp2_with fail
            have hc3 := swap_call p g cap l' k (2 * (k : Int) + 1 + 1) _ HH2 (by omega) (by omega) (by omega) (by omega)
            rw [show (2 * (k : Int) + 1 + 1).toNat = 2 * k + 2 by omega, Int.toNat_natCast] at hc3
            refine hc3.mono ?_
            rintro e w3 ⟨rfl, HH3, hO3⟩
            clear hc3
            go_wp2_with fail
            go_roundw
            case rel => exact ⟨2 * k + 2, f, _, by go_num, by omega, by omega, Lib.hid (by rw [swapL_length]; exact hl'.out), HH3, Lib.hid (by rw [← hdn.out, hdg.out]), (hO.drewN (m1 + m2)).trans hO3⟩
            case measure => simp [intOf]; omega
          | false =>
            have hdg := Lib.hid (downL_stay (f := f) h1 (by rw [Hc.out]; exact hb2))
            clear hc2 hb2
            go_wp2_with fail
            go_ret
            exact ⟨⟨_, rfl⟩, by rw [← hdn.out, hdg.out]; exact hH.drewN (m1 + m2), (hO.drewN (m1 + m2))⟩
        | false =>
          have Hc := Lib.hid (show childL l' k b = 2 * k + 1 by unfold childL; rw [if_neg (by rw [hb1]; simp)])
          clear hb1 hc1
          have hcl : 2 * k + 1 < b := by omega
          go_wp2_with fail
          have hc2 := less_call p g cap l' (2 * (k : Int) + 1) k _ HH (by omega) (by omega) (by omega) (by omega)
          rw [show (2 * (k : Int) + 1).toNat = 2 * k + 1 by omega, Int.toNat_natCast] at hc2
          refine hc2.mono ?_
          rintro e w2 ⟨rfl, m2, rfl⟩
          cases hb2 : ahead (pl l' (2 * k + 1)) (pl l' k) with
          | true =>
            have hdg := Lib.hid (downL_go (f := f) h1 (by rw [Hc.out]; exact hb2))
            rw [Hc.out] at hdg
            clear hc2 hb2
            have HH2 := hH.drewN (m1 + m2)
            have hd2 := HH2.head
            go_wp2_with fail
            have hc3 := swap_call p g cap l' k (2 * (k : Int) + 1) _ HH2 (by omega) (by omega) (by omega) (by omega)
            rw [show (2 * (k : Int) + 1).toNat = 2 * k + 1 by omega, Int.toNat_natCast] at hc3
            refine hc3.mono ?_
            rintro e w3 ⟨rfl, HH3, hO3⟩
            clear hc3
            go_wp2_with fail
            go_roundw
            case rel => exact ⟨2 * k + 1, f, _, by go_num, by omega, by omega, Lib.hid (by rw [swapL_length]; exact hl'.out), HH3, Lib.hid (by rw [← hdn.out, hdg.out]), (hO.drewN (m1 + m2)).trans hO3⟩
            case measure => simp [intOf]; omega
          | false =>
            have hdg := Lib.hid (downL_stay (f := f) h1 (by rw [Hc.out]; exact hb2))
            clear hc2 hb2
            go_wp2_with fail
            go_ret
            exact ⟨⟨_, rfl⟩, by rw [← hdn.out, hdg.out]; exact hH.drewN (m1 + m2), (hO.drewN (m1 + m2))⟩
      · have HH := hH
        have Hc := Lib.hid (show childL l' k b = 2 * k + 1 by unfold childL; rw [if_neg (by omega)])
        have hcl : 2 * k + 1 < b := by omega
        go_wp2_with fail
        have hc2 := less_call p g cap l' (2 * (k : Int) + 1) k _ HH (by omega) (by omega) (by omega) (by omega)
        rw [show (2 * (k : Int) + 1).toNat = 2 * k + 1 by omega, Int.toNat_natCast] at hc2
        refine hc2.mono ?_
        rintro e w2 ⟨rfl, m2, rfl⟩
        cases hb2 : ahead (pl l' (2 * k + 1)) (pl l' k) with
        | true =>
          have hdg := Lib.hid (downL_go (f := f) h1 (by rw [Hc.out]; exact hb2))
          rw [Hc.out] at hdg
          clear hc2 hb2
          have HH2 := HH.drewN m2
          have hd2 := HH2.head
          go_wp2_with fail
          have hc3 := swap_call p g cap l' k (2 * (k : Int) + 1) _ HH2 (by omega) (by omega) (by omega) (by omega)
          rw [show (2 * (k : Int) + 1).toNat = 2 * k + 1 by omega, Int.toNat_natCast] at hc3
          refine hc3.mono ?_
          rintro e w3 ⟨rfl, HH3, hO3⟩
          clear hc3
          go_wp2_with fail
          go_roundw
          case rel => exact ⟨2 * k + 1, f, _, by go_num, by omega, by omega, Lib.hid (by rw [swapL_length]; exact hl'.out), HH3, Lib.hid (by rw [← hdn.out, hdg.out]), (hO.drewN m2).trans hO3⟩
          case measure => simp [intOf]; omega
        | false =>
          have hdg := Lib.hid (downL_stay (f := f) h1 (by rw [Hc.out]; exact hb2))
          clear hc2 hb2
          go_wp2_with fail
          go_ret
          exact ⟨⟨_, rfl⟩, by rw [← hdn.out, hdg.out]; exact HH.drewN m2, (hO.drewN m2)⟩
    · have hlf := Lib.hid (downL_leaf (f := f) (l := l') h1)
      go_wp2_with fail
      go_ret
      exact ⟨⟨_, rfl⟩, by rw [← hdn.out, hlf.out]; exact hH, hO⟩

end Go.Proofs.Ytfnjomhefklbiaa
