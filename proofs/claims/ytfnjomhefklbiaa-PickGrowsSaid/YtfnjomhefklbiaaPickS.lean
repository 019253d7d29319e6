/-
  The walks of treenaillaw19: same and wakes.
-/
import Derived.Test.YtfnjomhefklbiaaPickR
namespace Go.Proofs.Ytfnjomhefklbiaa
open Go.RowKit

set_option maxHeartbeats 1000000 in
theorem same_any (ao bo : Option Addr) (n m c d : Nat) (x y : List Int) (w : World) (hn : x.length = n) (hm : y.length = m) (hx : IntsAt w ao x) (hy : IntsAt w bo y) (hl : n ≤ 1000000) (hk : m ≤ 1000000) :
    Calls Try.prog 23 #[.slice ao n c, .slice bo m d] w fun e w' => e = .returned (.bool (decide (x = y))) ∧ Below w.heap.size w w' := by
  subst hn hm
  by_cases hne : x.length = y.length
  · have hne' : (x.length : Int) = (y.length : Int) := by omega
    rw [← hne]
    have key : ∃ q : Bool, Hid (q = decide (x = y)) := ⟨_, Lib.hid rfl⟩
    obtain ⟨q, hq⟩ := key
    rw [← hq.out]
    go_enter Try.func23, Try.ntmps23
    go_wp2_with fail
    go_loopw [13] (fun i wr => ∃ k g : Nat, i = .int .i64 k ∧ k ≤ x.length ∧ wr = w.drewN g ∧ Hid (x.take k = y.take k)) (fun i _ => x.length - (intOf i).toNat)
    case atStart => exact ⟨0, 0, rfl, Nat.zero_le _, rfl, Lib.hid rfl⟩
    case round =>
      obtain ⟨k, g, rfl, hk, rfl, hE⟩ := hrel
      by_cases hkl : k < x.length
      · have hk0 : (0 : Int) ≤ (k : Int) := Int.natCast_nonneg _
        have hk1 : (k : Int) < (x.length : Int) := by omega
        obtain ⟨b1, o1, rfl, hb1, hc1⟩ := hx.at (by omega)
        obtain ⟨b2, o2, rfl, hb2, hc2⟩ := hy.at (by omega)
        have d1 := hc1 k hkl 0 _ rfl
        have d2 := hc2 k (by omega) 0 _ rfl
        rw [Nat.mul_one, Nat.add_zero] at d1 d2
        clear hc1 hc2 hx hy hne'
        by_cases he : x[k] = y[k]'(by omega)
        · have hE' : Hid (x.take (k + 1) = y.take (k + 1)) := Lib.hid (by
            rw [List.take_succ_eq_append_getElem hkl, List.take_succ_eq_append_getElem (by omega), hE.out, he])
          rw [← he] at d2
          clear he
          go_wp2_with fail
          go_region
          go_wp2_with fail
          go_roundw
          case rel => exact ⟨k + 1, _, by go_num, by omega, by first | rfl | simp, hE'⟩
          case measure => first | (simp [intOf]; done) | (simp [intOf]; omega)
        · have hq' : q = false := by
            rw [hq.out]
            refine decide_eq_false fun h => he ?_
            subst h
            rfl
          have he' : (x[k] != y[k]'(by omega)) = true := by simpa using he
          generalize x[k] = xa at *
          generalize y[k]'(by omega) = ya at *
          go_wp2_with fail
          go_region
          go_wp2_with fail
          go_ret
          exact ⟨ret_bool (by rw [hq']), ⟨rfl, rfl, rfl, Nat.le_refl _, fun _ _ => rfl⟩⟩
      · have hk' : k = x.length := by omega
        have hq' : q = true := by
          rw [hq.out]
          have := hE.out
          rw [hk', List.take_length, hne, List.take_length] at this
          exact decide_eq_true this
        subst hk'
        go_wp2_with fail
        go_ret
        exact ⟨ret_bool (by rw [hq']), ⟨rfl, rfl, rfl, Nat.le_refl _, fun _ _ => rfl⟩⟩
  · have hne' : ((x.length : Int) != (y.length : Int)) = true := bne_iff_ne.2 (by omega)
    rw [decide_eq_false (fun h => hne (by rw [h]))]
    generalize x.length = n at *
    generalize y.length = m at *
    have hnm : ¬ (n : Int) = (m : Int) := by omega
    go_enter Try.func23, Try.ntmps23
    go_wp2_with fail
    go_ret
    exact ⟨rfl, Below.refl _ _⟩


theorem ints_new (w : World) (l : List Int) (c : Array Value) (e : TypeId) (fz : Nat × Nat) (hc : c.toList = l.map fun x => .int .i64 x) : IntsAt (w.alloc (.cells c e fz)) (some ⟨w.heap.size, 0, none⟩) l :=
  SlAt.new w c e fz l (fun _ _ => rfl) (by rw [hc, List.map_eq_flatMap])
theorem Out.cells {B : Nat} {v : Value} {r : List Int} {w : World} (h : Out B v r w) : ∃ ao c, v = .slice ao r.length c ∧ IntsAt w ao r := by
  obtain ⟨ao, c, h1, h2, _⟩ := h.form
  exact ⟨ao, c, h1, h2⟩

set_option maxHeartbeats 1000000 in
theorem wakes19 (w : World) : Calls Try.prog 22 #[] w fun e w' => e = .returned (.bool true) ∧ Below w.heap.size w w' := by
  go_enter Try.func22, Try.ntmps22
  go_wp2_with fail
  refine (thread (P := Try.prog) (R := fun e w' => ∃ v, e = .returned v ∧ Out (w.heap.size + 1) v [1, 2, 0] w') ?_ w.heap.size w (by go_grown) (by go_grown)).mono ?_
  · have h := order_all (some ⟨w.heap.size, 0, none⟩) 3 [1, 3, 3] (w.alloc (.cells #[.int .i64 1, .int .i64 3, .int .i64 3] 3)) (ints_new _ _ _ _ _ rfl) (by simp)
    refine h.mono ?_
    rintro e w' ⟨v, rfl, h1, h2⟩
    refine ⟨⟨v, rfl, ?_⟩, h2⟩
    have e : topL [1, 3, 3] 3 = [1, 2, 0] := by decide +kernel
    have h1' : Out _ v (topL [1, 3, 3] 3) w' := h1
    rw [e] at h1'
    simpa using h1'
  rintro e w1 ⟨⟨v, rfl, hv⟩, hB1, -, -, hs1, hz1⟩
  obtain ⟨ao, c, rfl, hr⟩ := hv.cells
  obtain ⟨b, off, rfl, hb, hc⟩ := hr.at (by simp)
  have c0 := hc 0 (by simp) 0 _ rfl
  have c1 := hc 1 (by simp) 0 _ rfl
  have c2 := hc 2 (by simp) 0 _ rfl
  simp only [Nat.add_zero, Nat.mul_one] at c0 c1 c2
  clear hc hr hv
  go_wp2_with fail
  refine (thread (P := Try.prog) (R := fun e w' => e = .returned (.tuple #[.int .i64 2, .bool true])) ?_ w.heap.size w (by go_grown) (by go_grown)).mono ?_
  · have h := fullest_all (some ⟨w1.heap.size, 0, none⟩) 4 [0, 2, 5, 5] (w1.alloc (.cells #[.int .i64 0, .int .i64 2, .int .i64 5, .int .i64 5] 3)) (ints_new _ _ _ _ _ rfl) (by simp) 2 (by decide +kernel) (by simp)
    exact h
  rintro e w2 ⟨rfl, hB2, hc2, -, hs2, hz2⟩
  have d0 := (hc2 b _ (by simp; omega)).trans (cell_past _ c0)
  have d1 := (hc2 b _ (by simp; omega)).trans (cell_past _ c1)
  have d2 := (hc2 b _ (by simp; omega)).trans (cell_past _ c2)
  go_wp2_with fail
  go_ret
  exact ⟨rfl, hB2⟩

end Go.Proofs.Ytfnjomhefklbiaa
