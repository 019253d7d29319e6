/-
  What the walk of PickOrders needs; the walk where there is no count.
-/
import Derived.Test.YtfnjomhefklbiaaPickS
import Derived.Deep.RegionWith
import Derived.Deep.RegionHeld3
import Derived.Deep.DrawnRows
import Derived.Laws.AppendOwnNone
namespace Go.Proofs.Ytfnjomhefklbiaa
open Go.RowKit
attribute [local go_sem ↓] Go.wp_at_zero Go.wp_at_succ

/-- The greater and the less of two. -/
def jmax (a b : Int) : Int := if b > a then b else a
def jmin (a b : Int) : Int := if b < a then b else a
theorem run_jmax {P : Program} (ts : Array TypeId) (t : TypeId) (a b : Int) (w : World) : (Builtin.max_ ts t #[.int .i64 a, .int .i64 b]).run P w = .ok (.int .i64 (jmax a b)) w := by rw [run_max_int2]; rfl
theorem run_jmin {P : Program} (ts : Array TypeId) (t : TypeId) (a b : Int) (w : World) : (Builtin.min_ ts t #[.int .i64 a, .int .i64 b]).run P w = .ok (.int .i64 (jmin a b)) w := by rw [run_min_int2]; rfl

theorem Out.of_own {B : Nat} {v : Value} {r : List Int} {w : World} (h : w.ownsRow B 3 1 v r.length (intsV r)) : Out B v r w := by
  refine ⟨h, ?_⟩
  rcases h.2 with ⟨e, hn⟩ | ⟨g, cap, cur, hv, _⟩
  · rw [e, hn]; rfl
  · rw [hv]; rfl

/-- An open slice of ints, as an argument. -/
structure ArgInts (w : World) (v : Value) (l : List Int) : Prop where
  form : ∃ ao c, v = .slice ao l.length c ∧ IntsAt w ao l ∧ l.length ≤ c ∧ (c : Int) ≤ 9223372036854775807 ∧ (ao = none → c = 0)

theorem ints_cells {w : World} {ad : Addr} {x : List Int} (h : IntsAt w (some ad) x) (m : Nat) : ∀ j u, (intsV (x.take m))[j]? = some u → w.cell? (ad.add j) = some u := by
  intro j u hu
  have hj := (List.getElem?_eq_some_iff.1 hu).1
  rw [intsV, List.length_map, List.length_take] at hj
  obtain ⟨b, off, e, hb, hc⟩ := h.at (by omega)
  obtain rfl : ad = ⟨b, off, none⟩ := by simpa using e
  have := hc j (by omega) 0 _ rfl
  rw [show (⟨b, off, none⟩ : Addr).add j = ⟨b, off + j, none⟩ by simp [Addr.add], show off + j = off + j * 1 + 0 by omega, this, ← hu]
  simp [intsV, show j < m by omega, show j < x.length by omega]
theorem intsV_oneCell (l : List Int) : ∀ u ∈ intsV l, u.oneCell' = true := by
  intro u hu
  simp only [intsV, List.mem_map] at hu
  obtain ⟨a, -, rfl⟩ := hu
  rfl

theorem same_true (ao bo : Option Addr) (n c d : Nat) (l : List Int) (w : World) (hn : l.length = n) (hx : IntsAt w ao l) (hy : IntsAt w bo l) (hl : n ≤ 1000000) :
    Calls Try.prog 23 #[.slice ao n c, .slice bo n d] w fun e w' => e = .returned (.bool true) ∧ Below w.heap.size w w' := by
  have h := same_any ao bo n n c d l l w hn hn hx hy hl hl
  rw [decide_eq_true rfl] at h
  exact h
theorem Out.cells2 {B : Nat} {v : Value} {r : List Int} {w : World} (h : Out B v r w) : ∃ ao c, v = .slice ao r.length c ∧ IntsAt w ao r ∧ r.length ≤ c := by
  obtain ⟨ao, c, e, h2, _⟩ := h.form
  refine ⟨ao, c, e, h2, ?_⟩
  rcases h.own.2 with ⟨e', hn⟩ | ⟨g, cap, cur, hv, _, _, hle, _⟩
  · omega
  · rw [e] at hv
    simp only [Value.slice.injEq] at hv
    omega
/-- The order, with its length and its cells. -/
theorem top_cells (ao : Option Addr) (c : Nat) (l T : List Int) (most : Int) (p : Nat) (w : World) (hI : IntsAt w ao l) (hl : l.length ≤ 1000000) (hT : topL l most.toNat = T) (hp : T.length = p) :
    Calls Try.prog 25 #[.slice ao l.length c, .int .i64 most] w fun e w' => (∃ bo d, e = .returned (.slice bo p d) ∧ IntsAt w' bo T ∧ p ≤ d) ∧ Below w.heap.size w w' := by
  refine (top_all ao c l most w hI hl).mono ?_
  rintro e w' ⟨v, rfl, h1, h2⟩
  rw [hT] at h1
  obtain ⟨bo, d, rfl, h3, h4⟩ := h1.cells2
  rw [hp] at h4
  exact ⟨⟨bo, d, by rw [hp], h3, h4⟩, h2⟩
theorem order_cells (ao : Option Addr) (c : Nat) (l T : List Int) (p : Nat) (w : World) (hI : IntsAt w ao l) (hl : l.length ≤ 1000000) (hT : topL l l.length = T) (hp : T.length = p) :
    Calls Try.prog 24 #[.slice ao l.length c] w fun e w' => (∃ bo d, e = .returned (.slice bo p d) ∧ IntsAt w' bo T ∧ p ≤ d) ∧ Below w.heap.size w w' := by
  refine (order_all ao c l w hI hl).mono ?_
  rintro e w' ⟨v, rfl, h1, h2⟩
  rw [hT] at h1
  obtain ⟨bo, d, rfl, h3, h4⟩ := h1.cells2
  rw [hp] at h4
  exact ⟨⟨bo, d, by rw [hp], h3, h4⟩, h2⟩
theorem topHead (l : List Int) (h : 0 < l.length) : ∃ k : Nat, k < l.length ∧ ∃ r, (ordP l).map Prod.fst = (k : Int) :: r := by
  have hl := ordP_length l
  match e : ordP l with
  | [] => rw [e] at hl; simp at hl; omega
  | q :: r =>
    have hq : q ∈ pairs l := (ordP_spec l).1.subset (by rw [e]; simp)
    obtain ⟨k, hk, hke⟩ := List.getElem_of_mem hq
    rw [pairs_get] at hke
    rw [pairs_length] at hk
    exact ⟨k, hk, r.map Prod.fst, by rw [List.map_cons, ← hke]⟩

theorem order0 (w : World) : Calls Try.prog 20 #[.slice none 0 0] w fun e w' => (∃ ao c, e = .returned (.slice ao 0 c)) ∧ Below w.heap.size w w' := by
  refine (ref_order none 0 [] w (Or.inl rfl) (by simp)).mono ?_
  rintro e w' ⟨v, rfl, h1, h2⟩
  rw [show topL [] (List.length ([] : List Int)) = [] from topL_nil _] at h1
  obtain ⟨ao, c, rfl, _⟩ := h1.cells
  exact ⟨⟨ao, c, rfl⟩, h2⟩

set_option maxHeartbeats 1500000 in
theorem pickOrders_none (most : Int) (w : World) :
    Calls Try.prog 6 #[.slice none 0 0, .int .i64 most] w fun e w' => e = .returned (.bool true) ∧ Below w.heap.size w w' := by
  have hmax := fun ts t a b w => run_jmax (P := Try.prog) ts t a b w
  have hmin := fun ts t a b w => run_jmin (P := Try.prog) ts t a b w
  obtain ⟨i0, hi, hz0, hz1, hz2⟩ := info_parts int_info
  have hm : jmin 0 60 = 0 := rfl
  have hp : jmin (jmax 0 most) 0 = 0 := by unfold jmin jmax; (repeat' split) <;> omega
  have hc0 : (0 : Int) ≤ ((0 : Nat) : Int) := by omega
  go_enter Try.func6, Try.ntmps6
  have hB1 := Below.refl w.heap.size w
  go_wp2_with fail
  refine (thread (order0 _) w.heap.size w hB1 hB1.size).mono ?_
  rintro e w2 ⟨⟨ao2, c2, rfl⟩, hB2, -, -, hs2, hz2⟩
  have hcc : (0 : Int) ≤ (c2 : Int) := by omega
  go_wp2_with fail
  refine (thread (fullest_none none 0 w2) w.heap.size w hB2 hz2).mono ?_
  rintro e w3 ⟨rfl, hB3, hk3, -, hs3, hz3⟩
  go_wp2_with fail
  go_region_held3 (fun w' => w3.heap.size ≤ w'.heap.size)
  (first | assumption | go_keep | go_grown)
  (first
    | (go_at_call 22; refine (thread (wakes19 _) w3.heap.size w3 (by go_grown) (by go_grown)).mono ?_; rintro e wa ⟨rfl, hBa, -, -, -, hza⟩)
    | (go_at_call 24; refine (thread (order_cells none 0 [] [] 0 _ (Or.inl rfl) (by simp) (topL_nil _) rfl) w3.heap.size w3 (by go_grown) (by go_grown)).mono ?_; rintro e wb ⟨⟨ao4, c4, rfl, hI4, hc4⟩, hBb, -, -, -, hzb⟩)
    | (go_at_call 25; refine (thread (top_cells none 0 [] [] most 0 _ (Or.inl rfl) (by simp) (topL_nil _) rfl) w3.heap.size w3 (by go_grown) (by go_grown)).mono ?_; rintro e wc ⟨⟨ao5, c5, rfl, hI5, hc5⟩, hBc, -, -, -, hzc⟩)
    | (go_at_call 23; refine (thread (same_true _ _ 0 _ _ [] _ rfl (Or.inl rfl) (Or.inl rfl) (by omega)) w3.heap.size w3 (by go_grown) (by go_grown)).mono ?_; rintro e wd ⟨rfl, hBd, -, -, -, hzd⟩))
  go_wp2_with fail
  go_ret
  exact ⟨rfl, hB3.trans (hBd.mono hz3)⟩

set_option maxHeartbeats 1500000 in
theorem pickOrders_zero (ad : Addr) (c : Nat) (most : Int) (w : World) :
    Calls Try.prog 6 #[.slice (some ad) 0 c, .int .i64 most] w fun e w' => e = .returned (.bool true) ∧ Below w.heap.size w w' := by
  have hmax := fun ts t a b w => run_jmax (P := Try.prog) ts t a b w
  have hmin := fun ts t a b w => run_jmin (P := Try.prog) ts t a b w
  obtain ⟨i0, hi, hz0, hz1, hz2⟩ := info_parts int_info
  have hm : jmin 0 60 = 0 := rfl
  have hp : jmin (jmax 0 most) 0 = 0 := by unfold jmin jmax; (repeat' split) <;> omega
  have hc0 : (0 : Int) ≤ (c : Int) := by omega
  go_enter Try.func6, Try.ntmps6
  go_wp2_with (at_builtin; refine wpList_append_own_at _ rfl _ _ 27 rfl w.heap.size 3 i0 (.int .i64 0) 1 8 Try.underlying27 hi hz0 hz1 hz2 rfl (by decide) (.slice none 0 0) 0 [] rfl (World.ownsRow_nil _ _ _ _) ad 0 c [] rfl rfl (fun j u h => by simp at h) (fun u h => by simp at h) (by unfold maxLen; omega) (by omega) (Nat.le_refl _) ?_; intro v1 w1 hown hgrow hnil hat; obtain rfl := hnil.2 ⟨rfl, rfl⟩; have hB1 : Below w.heap.size w w1 := ⟨hgrow.os, hgrow.tape, hgrow.output, hgrow.size, fun k hk => hgrow.block k hk (by simp [Value.ownBlock])⟩; clear hown hgrow hat hnil)
  refine (thread (order0 _) w.heap.size w hB1 hB1.size).mono ?_
  rintro e w2 ⟨⟨ao2, c2, rfl⟩, hB2, -, -, hs2, hz2⟩
  have hcc : (0 : Int) ≤ (c2 : Int) := by omega
  go_wp2_with fail
  refine (thread (fullest_none none 0 w2) w.heap.size w hB2 hz2).mono ?_
  rintro e w3 ⟨rfl, hB3, hk3, -, hs3, hz3⟩
  go_wp2_with fail
  go_region_held3 (fun w' => w3.heap.size ≤ w'.heap.size)
  (first | assumption | go_keep | go_grown)
  (first
    | (go_at_call 22; refine (thread (wakes19 _) w3.heap.size w3 (by go_grown) (by go_grown)).mono ?_; rintro e wa ⟨rfl, hBa, -, -, -, hza⟩)
    | (go_at_call 24; refine (thread (order_cells none 0 [] [] 0 _ (Or.inl rfl) (by simp) (topL_nil _) rfl) w3.heap.size w3 (by go_grown) (by go_grown)).mono ?_; rintro e wb ⟨⟨ao4, c4, rfl, hI4, hc4⟩, hBb, -, -, -, hzb⟩)
    | (go_at_call 25; refine (thread (top_cells none 0 [] [] most 0 _ (Or.inl rfl) (by simp) (topL_nil _) rfl) w3.heap.size w3 (by go_grown) (by go_grown)).mono ?_; rintro e wc ⟨⟨ao5, c5, rfl, hI5, hc5⟩, hBc, -, -, -, hzc⟩)
    | (go_at_call 23; refine (thread (same_true _ _ 0 _ _ [] _ rfl (Or.inl rfl) (Or.inl rfl) (by omega)) w3.heap.size w3 (by go_grown) (by go_grown)).mono ?_; rintro e wd ⟨rfl, hBd, -, -, -, hzd⟩))
  go_wp2_with fail
  go_ret
  exact ⟨rfl, hB3.trans (hBd.mono hz3)⟩

end Go.Proofs.Ytfnjomhefklbiaa
