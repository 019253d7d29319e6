/-
  The walk of wakes.
-/
import Derived.Test.YthcjcmalfnfjkaaSkf
import Derived.Test.YthcjcmalfnfjkaaSkg
import Derived.Deep.DeepCutAuto
namespace Go.Proofs.Ythcjcmalfnfjkaa
open Go.RowKit
set_option linter.unusedVariables false
attribute [local go_sem ↓] Go.wp_at_zero Go.wp_at_succ

theorem St.fresh {w : World} {B0 B1 q : Nat} {L : List Ent} (h : ShAt w B0 B1 q (.slice none 0 0) L [] 0) (hB : B0 ≤ w.heap.size) (hq : q < w.heap.size) (lo hi : List UInt8) (n : Nat) : St (w.alloc (.cells (curCells q lo hi n) 105)) B0 (w.heap.size + 1) w.heap.size q (.slice none 0 0) L 0 [] ⟨lo, hi, n, [], false⟩ := by
  have h1 := h.on ((Below.refl _ _).alloc (Nat.le_refl _) (.cells (curCells q lo hi n) 105))
  have hc : ∀ o, (w.alloc (.cells (curCells q lo hi n) 105)).cell? ⟨w.heap.size, o, none⟩ = (curCells q lo hi n)[o]? := fun o => cell_new _ _ _ _ _
  refine ⟨⟨(hc 0).trans rfl, (hc 1).trans rfl, (hc 2).trans rfl, (hc 3).trans rfl, ⟨_, (hc 4).trans rfl, LeftAt.nil _ _⟩, (hc 5).trans rfl, World.frozen?_alloc_at _ _ _ _ rfl, World.frozen?_alloc_at _ _ _ _ rfl, World.frozen?_alloc_at _ _ _ _ rfl, by omega, by omega, hB⟩, ⟨h1.c0, h1.c1, h1.c2, h1.f1, h1.f2, World.ownsRow_nil _ _ _ _, by omega, by omega⟩, by simp⟩
theorem CurOk.fresh {L : List Ent} (h : Rising Ent.key L) (lo hi : List UInt8) (n : Nat) (hn : 1 ≤ n) : CurOk L ⟨lo, hi, n, [], false⟩ := ⟨h, rfl, fun e => by simp at e, hn⟩
theorem madeTo_rise (u : List Int) : ∀ n, n ≤ 256 → Rising Ent.key (madeTo u n) ∧ ∀ x ∈ madeTo u n, ∃ k, k < n ∧ x = entK k
  | 0, _ => ⟨List.Pairwise.nil, fun x hx => by simp [madeTo] at hx⟩
  | n + 1, hn => by
    obtain ⟨h1, h2⟩ := madeTo_rise u n (by omega)
    rw [madeTo_succ]
    split
    · refine ⟨List.pairwise_append.2 ⟨h1, List.pairwise_singleton _ _, fun a ha b hb => ?_⟩, fun x hx => ?_⟩
      · simp at hb
        subst hb
        obtain ⟨k, hk, rfl⟩ := h2 a ha
        show bl (entK k).key (entK n).key = true
        unfold entK
        rw [bl_cons]
        left
        rw [UInt8.lt_iff_toNat_lt]
        simp only [UInt8.toNat_ofNat']
        have e1 : k % 2 ^ 8 = k := Nat.mod_eq_of_lt (by omega)
        have e2 : n % 2 ^ 8 = n := Nat.mod_eq_of_lt (by omega)
        rw [e1, e2]
        exact hk
      · rcases List.mem_append.1 hx with hx | hx
        · obtain ⟨k, hk, e⟩ := h2 x hx
          exact ⟨k, by omega, e⟩
        · simp at hx
          exact ⟨n, by omega, hx⟩
    · exact ⟨h1, fun x hx => by obtain ⟨k, hk, e⟩ := h2 x hx; exact ⟨k, by omega, e⟩⟩
theorem made_ok (u : List Int) : Rising Ent.key (madeL u) ∧ (madeL u).length ≤ 256 ∧ ∀ x ∈ madeL u, x.key.length ≤ 1000 := by
  obtain ⟨h1, h2⟩ := madeTo_rise u 256 (by omega)
  exact ⟨h1, madeTo_len u 256, fun x hx => by obtain ⟨k, -, rfl⟩ := h2 x hx; simp [entK]⟩

theorem row_apart {w : World} {B B' : Nat} {E E' : TypeId} {k k' n n' : Nat} {v v' : Value} {xs xs' : List Value} (h : w.ownsRow B E k v n xs) (h' : w.ownsRow B' E' k' v' n' xs') (hne : E ≠ E') (g : Nat) (e : v.ownBlock = some g) : v'.ownBlock ≠ some g := fun e' => by
  rcases own_kinds h h' hne with h0 | h0
  · rw [h0] at e; exact absurd e (by simp)
  · exact h0 (e.trans e'.symm)
theorem wk_made : madeL [1, 2, 3] = [entK 1, entK 2, entK 3] := by kernel_rfl
theorem wk_rest : restS [entK 1, entK 2, entK 3] 0 10 [] ⟨[], [], 2, [], false⟩ [] = ([entK 1, entK 2, entK 3], 0, [2, 2], ⟨[3, 107, 0], [], 2, [], true⟩) := by kernel_rfl
theorem wk_next : nextS [entK 1, entK 2, entK 3] 0 [2, 2] ⟨[3, 107, 0], [], 2, [], true⟩ = (none, 0, [2, 2], ⟨[3, 107, 0], [], 2, [], true⟩) := by kernel_rfl

set_option maxRecDepth 100000 in
set_option maxHeartbeats 4000000 in
theorem wakes22_any (w : World) : Calls Try.prog 27 #[] w fun e w' => e = .returned (.bool true) ∧ Below w.heap.size w w' := by
  have hmi := made_ok [1, 2, 3]
  rw [wk_made] at hmi
  obtain ⟨hrise, -, hkl⟩ := hmi
  go_enter Try.func27, Try.ntmps27
  go_wp2_with fail
  have hst : SlAt (fun x : Int => [Value.int .u8 x]) 1 (w.alloc (.cells #[.int .u8 1, .int .u8 2, .int .u8 3] 5)) (some ⟨w.heap.size, 0, none⟩) [1, 2, 3] := SlAt.new w _ _ _ [1, 2, 3] (by simp) rfl
  refine (made_any (some ⟨w.heap.size, 0, none⟩) 3 [1, 2, 3] _ hst (by decide) (by decide) (by decide)).mono ?_
  rintro e w1 ⟨rfl, hsh, hb1⟩
  rw [wk_made] at hsh
  rw [World.size_alloc] at hsh hb1
  have hB1 : Below w.heap.size w w1 := (((Below.refl _ _).alloc (Nat.le_refl _) _).trans (hb1.mono (by omega)))
  have hq1 : w.heap.size + 1 < w1.heap.size := hsh.lt
  have HSH := Lib.hid hsh
  clear hst hb1 hsh
  go_wp2_with fail
  refine (new_ok (w.heap.size + 1) [] [] 2 w1 (by decide) (by decide)).mono ?_
  rintro e w2 ⟨rfl, rfl⟩
  obtain ⟨w2, hw2⟩ : ∃ w2, w2 = w1.alloc (.cells (curCells (w.heap.size + 1) [] [] 2) 105) := ⟨_, rfl⟩
  rw [← hw2]
  have hS2 := St.fresh HSH.out (Nat.le_refl _) hq1 [] [] 2
  rw [← hw2] at hS2
  have hB2 : Below w.heap.size w w2 := by rw [hw2]; exact hB1.alloc (by omega) _
  have HS2 := Lib.hid hS2
  have hz2 := hS2.le
  clear hw2 hS2 hB1
  go_wp2_with fail
  have hrs := rest_any _ _ _ _ _ _ _ _ _ 10 w2 HS2.out (by simp) (by simp) hkl (CurOk.fresh hrise [] [] 2 (by decide)) (Int.le_refl _) (by decide)
  rw [show (10 : Int).toNat = 10 from rfl, wk_rest] at hrs
  refine hrs.mono ?_
  rintro e w3 ⟨a3, c3, rfl, hown3, va3, hst3, hch3, hvb3⟩
  dsimp only at *
  have HO3 := Lib.hid hown3
  have HS3 := Lib.hid hst3
  have hB3 := hch3.below hB2 (by omega) (by omega) (fun i e => by simp [Value.ownBlock] at e) (by omega)
  have HVB3 := Lib.hid (show ∀ i, va3.ownBlock = some i → w.heap.size ≤ i from fun i e => by have := (hst3.sh.own.lt i e).1; omega)
  clear hrs hown3 hst3 hch3 hvb3
  go_wp2_with fail
  have hnx := next_any _ _ _ _ _ _ _ _ _ w3 HS3.out (by simp) (by simp) (fun x hx => by simp [fillS] at hx)
  rw [wk_next] at hnx
  refine hnx.mono ?_
  rintro e w4 ⟨rfl, va4, hst4, hch4, hvb4, -⟩
  dsimp only at *
  have hown4 := own_chg HO3.out (fun g e => hch4.block g (HO3.out.lt g e).2 (by have := (HO3.out.lt g e).1; omega) (by have := (HO3.out.lt g e).1; omega) (row_apart HO3.out HS3.out.sh.own (by decide) g e))
  obtain ⟨g, hg, hg1, hg2, hgc⟩ := own_at hown4 (by decide)
  subst hg
  have d2 := hgc 4 (.string (S [3, 107])) rfl
  obtain ⟨ga, ca, rfl⟩ := own_form hst4.sh.own
  have c1 := hst4.sh.c1
  have hB4 := hch4.below hB3 (by omega) (by omega) HVB3.out hB3.size
  have hq4 := World.block_lt_of_cell? w4 _ c1
  have haf := fun W => after_any [97] (by decide) W
  clear hst4 hch4 hvb4 hown4 hgc hnx
  unfold tellV entO
  simp only [Option.isSome, List.length_cons, List.length_nil] at *
  go_upto_region 5 with (fail)
  obtain ⟨w5, hw5⟩ : ∃ w5, w5 = w4.alloc (.cells #[.string ⟨#[]⟩, .string ⟨#[]⟩] 55) := ⟨_, rfl⟩
  rw [← hw5]
  have hX5 : Below w4.heap.size w4 w5 := by rw [hw5]; go_grown
  have d2 := kept_cell hX5 d2
  have c1 := kept_cell hX5 c1
  have hB5 := hB4.trans (hX5.mono hB4.size)
  clear hw5 hX5
  go_wp2_with (go_at_call 42; refine (haf _).mono ?_; rintro e w6 ⟨rfl, rfl⟩)
  go_ret
  exact ⟨rfl, hB5⟩

end Go.Proofs.Ythcjcmalfnfjkaa
