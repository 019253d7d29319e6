/-
  The walk of law 06's wakes.
-/
import Derived.Test.YtblleinahlaohaaBtc
import Derived.Test.YtblleinahlaohaaBte
namespace Go.Proofs.Ytblleinahlaohaa
open Go.RowKit Go.Shelf
set_option linter.unusedVariables false
attribute [local go_sem ↓] Go.wp_at_zero Go.wp_at_succ

theorem PlaceIs.unique {nb x p q : Int} {zs : List Int} (h : PlaceIs nb zs x p) (k : PlaceIs nb zs x q) : p = q := by
  rcases h with ⟨i, hi, e1, m1, rfl⟩ | ⟨n1, rfl⟩
  · rcases k with ⟨j, hj, e2, m2, rfl⟩ | ⟨n2, rfl⟩
    · rcases Nat.lt_trichotomy i j with h | h | h
      · exact absurd e2 (m1 j h hj)
      · rw [h]
      · exact absurd e1 (m2 i h hi)
    · exact absurd e1 (n2 i hi)
  · rcases k with ⟨j, hj, e2, m2, rfl⟩ | ⟨n2, rfl⟩
    · exact absurd e2 (n1 j hj)
    · rfl
theorem place_range {nb x p : Int} {zs : List Int} (h : PlaceIs nb zs x p) (hx : 0 ≤ x ∧ x < nb) : 0 ≤ p ∧ p < nb + zs.length := by
  rcases h with ⟨i, hi, e1, m1, rfl⟩ | ⟨n1, rfl⟩ <;> omega
/-- No two blocks are at one place. -/
theorem place_apart {nb x y p : Int} {zs : List Int} (h : PlaceIs nb zs x p) (k : PlaceIs nb zs y p) (hx : x < nb) (hy : y < nb) : x = y := by
  rcases h with ⟨i, hi, e1, m1, e3⟩ | ⟨n1, e3⟩
  · rcases k with ⟨j, hj, e2, m2, e4⟩ | ⟨n2, e4⟩
    · have : i = j := by omega
      subst this
      rw [← e1, ← e2]
    · omega
  · rcases k with ⟨j, hj, e2, m2, e4⟩ | ⟨n2, e4⟩
    · omega
    · omega

set_option maxRecDepth 100000 in
set_option maxHeartbeats 8000000 in
theorem wakes06 (w : World) : Calls Try.prog 8 #[] w fun e w' => e = .returned (.bool true) ∧ Below w.heap.size w w' := by
  go_enter Try.func8, Try.ntmps8
  go_wp2_with fail
  refine (new_ok 10 2 w (by decide) (by decide) (by decide) (by decide)).mono ?_
  rintro e w1 ⟨rfl, hB1⟩
  go_upto_region 2 with (fail)
  obtain ⟨w2, hw2⟩ : ∃ w2, w2 = w1.alloc (.cells #[.int .i64 10, .int .i64 2, .slice none 0 0] 25) := ⟨_, rfl⟩
  have b1 := Lib.hid (BoxT.new (w := w1) (nb := 10) (sp := 2) (sv := .slice none 0 0) (zs := []) rfl (Or.inl ⟨rfl, rfl⟩) 25)
  have hL2 := Lib.hid (hB1.trans ((show Below w1.heap.size w1 (w1.alloc (.cells #[.int .i64 10, .int .i64 2, .slice none 0 0] 25)) by go_grown).mono hB1.size))
  rw [← hw2] at b1 hL2 ⊢
  clear hw2
  obtain ⟨k0, k1, k2, -, -⟩ := b1.out
  go_wp2_with fail
  refine (move_ok 10 2 (.slice none 0 0) [] 3 w2 b1.out.ints (by decide) (by decide) (by decide)).mono ?_
  rintro e w3 ⟨⟨v3, rfl, hi3, hv3⟩, hB3⟩
  have b13 := Lib.hid (b1.out.on hB3)
  have hL3 := Lib.hid (hL2.out.trans (hB3.mono hL2.out.size))
  have hi3' : Ints w3.heap.size w3 v3 [3] := hi3
  obtain ⟨va, vc, hv⟩ : ∃ va vc, v3 = .slice va 1 vc := hi3'.len
  subst hv
  clear hi3 hv3 hB3 b1 hL2 k0 k1 k2
  go_upto_region 3 with (fail)
  obtain ⟨w4, hw4⟩ : ∃ w4, w4 = w3.alloc (.cells #[.int .i64 10, .int .i64 2, .slice va 1 vc] 25) := ⟨_, rfl⟩
  have b3 := Lib.hid (BoxT.new (w := w3) (nb := 10) (sp := 2) rfl hi3' 25)
  have hX4 : Below w3.heap.size w3 (w3.alloc (.cells #[.int .i64 10, .int .i64 2, .slice va 1 vc] 25)) := by go_grown
  have b14 := Lib.hid (b13.out.on hX4)
  have hL4 := Lib.hid (hL3.out.trans (hX4.mono hL3.out.size))
  rw [← hw4] at b3 b14 hL4 ⊢
  clear hw4 hX4 b13 hL3 hi3'
  obtain ⟨k0, k1, k2, -, -⟩ := b3.out
  go_wp2_with fail
  refine (at_any 10 2 (.slice va 1 vc) [3] 3 w4 b3.out.ints (by decide) (by decide) (by decide)).mono ?_
  rintro e w5 ⟨⟨p, rfl, hp⟩, hB5⟩
  obtain rfl : p = 10 := hp.unique (Or.inl ⟨0, by decide, rfl, fun j h1 h2 => by simp at h2; omega, rfl⟩)
  have b35 := Lib.hid (b3.out.on hB5)
  have b15 := Lib.hid (b14.out.on hB5)
  have hL5 := Lib.hid (hL4.out.trans (hB5.mono hL4.out.size))
  clear hp hB5 b3 b14 hL4 k0 k1 k2
  obtain ⟨k0, k1, k2, -, -⟩ := b15.out
  go_wp2_with fail
  refine (at_any 10 2 (.slice none 0 0) [] 3 w5 b15.out.ints (by decide) (by decide) (by decide)).mono ?_
  rintro e w6 ⟨⟨p, rfl, hp⟩, hB6⟩
  obtain rfl : p = 3 := hp.unique (Or.inr ⟨fun j hj => by simp at hj, rfl⟩)
  have b36 := Lib.hid (b35.out.on hB6)
  have hL6 := Lib.hid (hL5.out.trans (hB6.mono hL5.out.size))
  clear hp hB6 b35 b15 hL5 k0 k1 k2
  obtain ⟨k0, k1, k2, -, -⟩ := b36.out
  go_wp2_with fail
  refine (left_any 10 2 va 1 vc w6 (by decide) (by decide) (by decide)).mono ?_
  rintro e w7 ⟨rfl, hB7⟩
  have b37 := Lib.hid (b36.out.on hB7)
  have hL7 := Lib.hid (hL6.out.trans (hB7.mono hL6.out.size))
  clear hB7 b36 hL6 k0 k1 k2
  obtain ⟨k0, k1, k2, -, -⟩ := b37.out
  go_wp2_with fail
  refine (gen_any 10 2 va 1 vc w7 (by decide)).mono ?_
  rintro e w8 ⟨rfl, hB8⟩
  have hL8 := Lib.hid (hL7.out.trans (hB8.mono hL7.out.size))
  go_wp2_with fail
  go_ret
  exact ⟨rfl, hL8.out⟩

end Go.Proofs.Ytblleinahlaohaa
