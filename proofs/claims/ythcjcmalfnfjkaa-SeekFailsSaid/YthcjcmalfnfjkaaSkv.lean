/-
  The walk of SeekFails.
-/
import Derived.Test.YthcjcmalfnfjkaaSkx
import Derived.Deep.DeepCutAuto
import Derived.BigQuiet
namespace Go.Proofs.Ythcjcmalfnfjkaa
open Go.RowKit
set_option linter.unusedVariables false
attribute [local go_sem ↓] Go.wp_at_zero Go.wp_at_succ

/-- What the loop of SeekFails holds. -/
structure FlAt (L : List Ent) (at_ : Nat) (C : CurS) : Prop where
  ok : CurOk L C
  rem : remL L C = L.drop at_
theorem rem_all (L : List Ent) (n : Nat) : remL L ⟨[], [], n, [], false⟩ = L := by
  unfold remL
  rw [List.filter_eq_self]
  intro x _
  unfold withinE
  rw [bl_nil]
  rfl
theorem next_failed {L : List Ent} {fail : Int} {A : List Int} {C : CurS} (h : (nextS L fail A C).2.1 = 10) : (nextS L fail A C).2.2.1.length = A.length + 1 := by
  rw [nextS_asks]
  unfold nextS at h
  dsimp only at h
  have he := fillS_err L fail A C
  rcases he with he | he
  · rw [if_pos he] at h; simp at h
  · unfold fillS at he ⊢
    split
    · rename_i h1; rw [if_pos h1] at he; simp at he
    · rename_i h1
      rw [if_neg h1] at he
      split
      · simp
      · simp
theorem next_mono (L : List Ent) (fail : Int) (A : List Int) (C : CurS) : A.length ≤ (nextS L fail A C).2.2.1.length := by
  rw [nextS_asks]
  unfold fillS
  split
  · exact Nat.le_refl _
  · split <;> simp
theorem St.setFail {w : World} {B0 B1 p q : Nat} {va : Value} {L : List Ent} {A : List Int} {C : CurS} {f0 : Int} (h : St w B0 B1 p q va L f0 A C) (f : Int) : St (w.setCell ⟨q, 2, none⟩ (.int .i64 f)) B0 B1 p q va L f A C := by
  have hq := h.sh.lt
  have hne := h.cu.ne
  obtain ⟨v4, h4, hl⟩ := h.cu.c4
  obtain ⟨aL, cL, h0, hr⟩ := h.sh.c0
  have oth : ∀ o, (w.setCell ⟨q, 2, none⟩ (.int .i64 f)).cell? ⟨p, o, none⟩ = w.cell? ⟨p, o, none⟩ := fun o => World.cell?_setCell_other _ _ _ _ (addr_ne (Or.inl (Ne.symm hne)))
  refine ⟨⟨(oth 0).trans h.cu.c0, (oth 1).trans h.cu.c1, (oth 2).trans h.cu.c2, (oth 3).trans h.cu.c3, ⟨v4, (oth 4).trans h4, hl.setCell hq _⟩, (oth 5).trans h.cu.c5, ?_, ?_, ?_, h.cu.lt, hne, h.cu.ge⟩, ⟨⟨aL, cL, ?_, ?_⟩, ?_, ?_, ?_, ?_, ?_, hq, h.sh.le⟩, by rw [World.size_setCell]; exact h.le⟩
  · rw [World.frozen?_setCell]; exact h.cu.f1
  · rw [World.frozen?_setCell]; exact h.cu.f4
  · rw [World.frozen?_setCell]; exact h.cu.f5
  · rw [World.cell?_setCell_other _ _ _ _ (addr_ne (Or.inr (by decide)))]; exact h0
  · rcases hr with hr | ⟨b, off, rfl, h1, h2, h3⟩
    · exact Or.inl hr
    · refine Or.inr ⟨b, off, rfl, h1, h2, fun i hi j x hx => ?_⟩
      rw [World.cell?_setCell_other _ _ _ _ (addr_ne (Or.inl (fun e => h2 e.symm)))]
      exact h3 i hi j x hx
  · rw [World.cell?_setCell_other _ _ _ _ (addr_ne (Or.inr (by decide)))]; exact h.sh.c1
  · exact World.cell?_setCell_same _ _ _ h.sh.c2
  · rw [World.frozen?_setCell]; exact h.sh.f1
  · rw [World.frozen?_setCell]; exact h.sh.f2
  · exact ownsRow_setCell_other (a := ⟨q, 2, none⟩) h.sh.own (fun e => by have := (h.sh.own.lt q e).1; omega) _

set_option maxRecDepth 100000 in
set_option maxHeartbeats 16000000 in
theorem seekFails_walk (ao : Option Addr) (c : Nat) (l : List Int) (fb : Nat) (ch : Nat) (w : World) (hs : SlAt (fun x : Int => [Value.int .u8 x]) 1 w ao l) (hc : l.length ≤ c) (hx : ∀ x ∈ l, 0 ≤ x ∧ x < 256) (hl : (l.length : Int) ≤ 9223372036854775807) (hfb : fb < 256) (hch : ch < 256) :
    Calls Try.prog 9 #[.slice ao l.length c, .int .u8 fb, .int .u8 ch] w fun e w' => e = .returned (.bool true) ∧ Below w.heap.size w w' := by
  obtain ⟨hLr, hLl, hLk⟩ := made_ok l
  have hLk2 : ∀ x ∈ madeL l, x.key.length ≤ 2 := fun x hx => by
    obtain ⟨k, -, rfl⟩ := (madeTo_rise l 256 (by omega)).2 x hx; simp [entK]
  have HMA := Lib.hid (made_any ao c l w hs hc hx hl)
  have HLR := Lib.hid hLr
  have HLK := Lib.hid hLk
  have HLK2 := Lib.hid hLk2
  clear hs hx hLr hLk hLk2
  generalize madeL l = L at *
  go_enter Try.func9, Try.ntmps9
  go_wp2_with fail
  refine HMA.out.mono ?_
  rintro e w1 ⟨rfl, hsh, hB1⟩
  have hq1 : w.heap.size < w1.heap.size := hsh.lt
  have HSH := Lib.hid hsh
  clear HMA hsh
  go_wp2_with fail
  have hn : (1 : Int) + (ch : Int) % 20 = ((1 + ch % 20 : Nat) : Int) := by omega
  rw [hn]
  have hn1 : 1 ≤ 1 + ch % 20 ∧ 1 + ch % 20 ≤ 20 := by omega
  generalize 1 + ch % 20 = n at *
  clear hn
  refine (new_ok w.heap.size [] [] n w1 hn1.1 (by omega)).mono ?_
  rintro e w2 ⟨rfl, rfl⟩
  obtain ⟨w2, hw2⟩ : ∃ w2, w2 = w1.alloc (.cells (curCells w.heap.size [] [] n) 105) := ⟨_, rfl⟩
  rw [← hw2]
  have hS2 := St.fresh HSH.out (Nat.le_refl _) hq1 [] [] n
  rw [← hw2] at hS2
  have hB2 : Below w.heap.size w w2 := by rw [hw2]; exact hB1.alloc (by omega) _
  have hz2 := hS2.le
  have HS2 := Lib.hid hS2
  have HC2 := Lib.hid (show FlAt L 0 ⟨[], [], n, [], false⟩ from ⟨CurOk.fresh HLR.out [] [] n hn1.1, rem_all L n⟩)
  clear hw2 hS2 hB1 HSH
  go_wp2_with fail
  refine (thread (wakes22_any w2) w2.heap.size w2 (Below.refl _ _) (Nat.le_refl _)).mono ?_
  rintro e w3 ⟨rfl, hX3, -, -, -, hz3⟩
  have HS3 := Lib.hid (HS2.out.on hX3)
  have hB3 := hB2.trans (hX3.mono hB2.size)
  clear hX3 HS2 hB2
  have d2 := HS3.out.sh.c2
  have df := HS3.out.sh.f2
  have hz4 := HS3.out.le
  go_upto_region 6 with (fail)
  have hf : (1 : Int) + (fb : Int) % 20 = ((1 + fb % 20 : Nat) : Int) := by omega
  rw [hf]
  have hf1 : 1 ≤ 1 + fb % 20 ∧ 1 + fb % 20 ≤ 20 := by omega
  generalize 1 + fb % 20 = f at *
  clear hf
  obtain ⟨w4, hw4⟩ : ∃ w4, w4 = w3.setCell ⟨w.heap.size, 2, none⟩ (.int .i64 (f : Int)) := ⟨_, rfl⟩
  rw [← hw4]
  have HS4 := Lib.hid (show St w4 w1.heap.size (w1.heap.size + 1) w1.heap.size w.heap.size (.slice none 0 0) L (f : Int) [] ⟨[], [], n, [], false⟩ from by rw [hw4]; exact HS3.out.setFail _)
  have hB4 : Below w.heap.size w w4 := by rw [hw4]; exact hB3.setCell (p := ⟨w.heap.size, 2, none⟩) (Nat.le_refl _) _
  obtain ⟨aL, cL, h0, hr⟩ := HS4.out.sh.c0
  clear hw4 d2 df HS3 hB3 hr
  go_wp2_with fail
  go_loopw [58, 10] (fun i s10 wr => ∃ (j at_ : Nat) (A : List Int) (C : CurS) (va : Value), i = .int .i64 j ∧ j ≤ 2 * L.length + 4 ∧ s10 = .int .i64 at_ ∧ at_ ≤ L.length ∧ Hid (FlAt L at_ C) ∧ A.length ≤ j ∧ Hid (j ≤ at_ ∨ (j ≤ at_ + 1 ∧ f ≤ A.length)) ∧ Hid (St wr w1.heap.size (w1.heap.size + 1) w1.heap.size w.heap.size va L (f : Int) A C) ∧ Below w.heap.size w wr) (fun i _ _ => 2 * L.length + 4 - (intOf i).toNat)
  case atStart => exact ⟨0, 0, [], ⟨[], [], n, [], false⟩, .slice none 0 0, rfl, by omega, rfl, by omega, HC2, by simp, Lib.hid (Or.inl (by omega)), HS4, hB4⟩
  case round =>
    obtain ⟨j, k, A, C, va, rfl, hj, rfl, hk, HC, hAj, HD, HS, hB⟩ := hrel
    obtain ⟨wo, hwo⟩ : ∃ wo, wo = wr := ⟨_, rfl⟩
    subst hwo
    have hj0 : (0 : Int) ≤ (j : Int) := Int.natCast_nonneg _
    have hk0 : (0 : Int) ≤ (k : Int) := Int.natCast_nonneg _
    have hzo := HS.out.le
    have hjk : j ≤ k + 1 := by rcases HD.out with h | ⟨h, -⟩ <;> omega
    clear h0
    obtain ⟨aL, cL, h0, hr⟩ := HS.out.sh.c0
    have HR := Lib.hid hr
    clear hr
    have hj1 : (j : Int) < 2 * (L.length : Int) + 4 := by omega
    obtain ⟨g1', g2', g3', g4'⟩ := next_spec (fail := (f : Int)) (A := A) HC.out.ok
    have hnf := next_failed (L := L) (fail := (f : Int)) (A := A) (C := C)
    have hmono := next_mono L (f : Int) A C
    have hna := nextS_asks L (f : Int) A C
    have hfa := fillS_asks L (f : Int) A C
    rw [← hna] at hfa
    clear hna
    have hN := next_any _ _ _ _ va L A (f : Int) C wo HS.out (by omega) (by omega) (fun x hx => Nat.le_trans (HLK.out x ((nextS_big HLK.out (cur_sub HC.out.ok)).1 x hx)) (by omega))
    generalize nextS L (f : Int) A C = R at *
    obtain ⟨o, err, A', C'⟩ := R
    dsimp only at *
    rw [HC.out.rem] at g4'
    have HN := Lib.hid hN
    have HCC := Lib.hid g1'
    have hneq := fun a b w => ent_neq_same a b w
    have hgrd := fun op x y xs ys w => ent_guard op x y xs ys w
    have hBv : ∀ i, va.ownBlock = some i → w.heap.size ≤ i := fun i e => by have := (HS.out.sh.own.lt i e).1; omega
    have HBV := Lib.hid hBv
    clear hN g1' hBv
    rcases g4' with ⟨rfl, g5, g6⟩ | ⟨rfl, g5, g6, g7⟩
    · by_cases hkl : k < L.length
      · rw [List.drop_eq_getElem_cons hkl] at g5 g6
        simp only [List.head?_cons] at g5
        have HC' := Lib.hid (show FlAt L (k + 1) C' from ⟨HCC.out, g6⟩)
        have hk1 : (k : Int) < (L.length : Int) := by omega
        clear g6 hnf HCC
        generalize hxk : L[k] = x at *
        have HXK := Lib.hid hxk
        clear hxk
        subst g5
        go_wp2_with fail
        refine HN.out.mono ?_
        rintro e w6 ⟨rfl, vb, hst, hch, hvb, -⟩
        obtain ⟨aL', cL', h6, hr6⟩ := hst.sh.c0
        rcases hr6 with hr | ⟨b2, off2, rfl, hb1, hbq, hcl⟩
        · rw [hr] at hkl; simp at hkl
        have e0 := hcl k hkl 0 _ rfl
        have e1 := hcl k hkl 1 _ rfl
        rw [Nat.add_zero, HXK.out] at e0
        rw [HXK.out] at e1
        clear hcl
        have hB6 := hch.below hB (by omega) (Nat.le_refl _) HBV.out hB.size
        have HS6 := Lib.hid hst
        have hkl6 := World.block_lt_of_cell? w6 _ h6
        unfold tellV entO entV
        simp only [Option.isSome]
        clear hst hch hvb HN h0
        go_upto_region 10 with (fail)
        have hX6 := Below.refl w6.heap.size w6
        obtain ⟨W7, hW_W7⟩ : ∃ W7, W7 = (w6.alloc (.cells #[.string (S x.key), .string (S x.val)] 55)) := ⟨_, rfl⟩
        rw [← hW_W7]
        have hX_W7 : Below w6.heap.size w6 W7 := by rw [hW_W7]; go_grown
        have u0 : W7.cell? ⟨w6.heap.size, 0, none⟩ = some (.string (S x.key)) := by rw [hW_W7, World.cell?_alloc_at _ _ _ _ (by simp)]; rfl
        have u1 : W7.cell? ⟨w6.heap.size, 1, none⟩ = some (.string (S x.val)) := by rw [hW_W7, World.cell?_alloc_at _ _ _ _ (by simp)]; rfl
        clear hW_W7
        have hz_W7 := hX_W7.size
        replace h6 := kept_cell hX_W7 h6
        replace e0 := kept_cell hX_W7 e0
        replace e1 := kept_cell hX_W7 e1
        replace hB6 := hB6.trans (hX_W7.mono hB6.size)
        replace hX6 := hX6.trans (hX_W7.mono hX6.size)
        clear hX_W7
        have HS7 := Lib.hid (HS6.out.on hX6)
        clear hX6
        go_wp2_with fail
        have hX7 := Below.refl W7.heap.size W7
        refine WQ.region (C := fun w' => Below W7.heap.size W7 w') (by kernel_rfl) (by kernel_rfl) (below_drew' (Below.refl _ _)) ?_
        refine WQ.want (by rfl) (fun K hK => ?_)
        refine ⟨.int .i64 k, fun w' hw' => ?_, hK _ ?_⟩
        · have hq' := hw'
          go_simp
        clear hK K
        (try simp only [Act.put, List.setIfInBounds_toArray, List.set_cons_zero, List.set_cons_succ])
        refine WQ.want (by rfl) (fun K hK => ?_)
        refine ⟨.pointer (some ⟨w.heap.size, 0, none⟩), fun w' hw' => ?_, hK _ ?_⟩
        · have hq' := hw'
          go_simp
        clear hK K
        (try simp only [Act.put, List.setIfInBounds_toArray, List.set_cons_zero, List.set_cons_succ])
        refine WQ.want (by rfl) (fun K hK => ?_)
        refine ⟨.pointer (some ⟨w.heap.size, 0, none⟩), fun w' hw' => ?_, hK _ ?_⟩
        · have hq' := hw'
          go_simp
        clear hK K
        (try simp only [Act.put, List.setIfInBounds_toArray, List.set_cons_zero, List.set_cons_succ])
        refine WQ.want (by rfl) (fun K hK => ?_)
        refine ⟨.pointer (some ⟨w.heap.size, 0, none⟩), fun w' hw' => ?_, hK _ ?_⟩
        · have hq' := hw'
          go_simp
        clear hK K
        (try simp only [Act.put, List.setIfInBounds_toArray, List.set_cons_zero, List.set_cons_succ])
        refine WQ.want (by rfl) (fun K hK => ?_)
        refine ⟨.slice (some ⟨b2, off2, none⟩) L.length cL', fun w' hw' => ?_, hK _ ?_⟩
        · have hq' := hw'
          have z0 := kept_cell hw' h6; have z1 := kept_cell hw' u0; have z2 := kept_cell hw' u1; have z3 := kept_cell hw' e0; have z4 := kept_cell hw' e1; go_simp
        clear hK K
        (try simp only [Act.put, List.setIfInBounds_toArray, List.set_cons_zero, List.set_cons_succ])
        refine WQ.want (by rfl) (fun K hK => ?_)
        refine ⟨.int .i64 L.length, fun w' hw' => ?_, hK _ ?_⟩
        · have hq' := hw'
          go_simp
        clear hK K
        (try simp only [Act.put, List.setIfInBounds_toArray, List.set_cons_zero, List.set_cons_succ])
        refine WQ.want (by rfl) (fun K hK => ?_)
        refine ⟨.bool false, fun w' hw' => ?_, hK _ ?_⟩
        · have hq' := hw'
          go_simp
        clear hK K
        (try simp only [Act.put, List.setIfInBounds_toArray, List.set_cons_zero, List.set_cons_succ])
        refine WQ.want (by rfl) (fun K hK => ?_)
        refine ⟨.bool false, fun w' hw' => ?_, hK _ ?_⟩
        · have hq' := hw'
          go_simp
        clear hK K
        (try simp only [Act.put, List.setIfInBounds_toArray, List.set_cons_zero, List.set_cons_succ])
        refine WQ.want (by rfl) (fun K hK => ?_)
        refine ⟨.agg #[.string (S x.key), .string (S x.val)], fun w' hw' => ?_, hK _ ?_⟩
        · have hq' := hw'
          have z0 := kept_cell hw' h6; have z1 := kept_cell hw' u0; have z2 := kept_cell hw' u1; have z3 := kept_cell hw' e0; have z4 := kept_cell hw' e1; go_simp
        clear hK K
        (try simp only [Act.put, List.setIfInBounds_toArray, List.set_cons_zero, List.set_cons_succ])
        refine WQ.want (by rfl) (fun K hK => ?_)
        refine ⟨.pointer (some ⟨w.heap.size, 0, none⟩), fun w' hw' => ?_, hK _ ?_⟩
        · have hq' := hw'
          go_simp
        clear hK K
        (try simp only [Act.put, List.setIfInBounds_toArray, List.set_cons_zero, List.set_cons_succ])
        refine WQ.want (by rfl) (fun K hK => ?_)
        refine ⟨.pointer (some ⟨w.heap.size, 0, none⟩), fun w' hw' => ?_, hK _ ?_⟩
        · have hq' := hw'
          go_simp
        clear hK K
        (try simp only [Act.put, List.setIfInBounds_toArray, List.set_cons_zero, List.set_cons_succ])
        refine WQ.want (by rfl) (fun K hK => ?_)
        refine ⟨.pointer (some ⟨w.heap.size, 0, none⟩), fun w' hw' => ?_, hK _ ?_⟩
        · have hq' := hw'
          go_simp
        clear hK K
        (try simp only [Act.put, List.setIfInBounds_toArray, List.set_cons_zero, List.set_cons_succ])
        refine WQ.want (by rfl) (fun K hK => ?_)
        refine ⟨.slice (some ⟨b2, off2, none⟩) L.length cL', fun w' hw' => ?_, hK _ ?_⟩
        · have hq' := hw'
          have z0 := kept_cell hw' h6; have z1 := kept_cell hw' u0; have z2 := kept_cell hw' u1; have z3 := kept_cell hw' e0; have z4 := kept_cell hw' e1; go_simp
        clear hK K
        (try simp only [Act.put, List.setIfInBounds_toArray, List.set_cons_zero, List.set_cons_succ])
        refine WQ.want (by rfl) (fun K hK => ?_)
        refine ⟨.int .i64 k, fun w' hw' => ?_, hK _ ?_⟩
        · have hq' := hw'
          go_simp
        clear hK K
        (try simp only [Act.put, List.setIfInBounds_toArray, List.set_cons_zero, List.set_cons_succ])
        refine WQ.want (by rfl) (fun K hK => ?_)
        refine ⟨.pointer (some ⟨b2, off2 + k * 2, none⟩), fun w' hw' => ?_, hK _ ?_⟩
        · have hq' := hw'
          go_simp
        clear hK K
        (try simp only [Act.put, List.setIfInBounds_toArray, List.set_cons_zero, List.set_cons_succ])
        refine WQ.want (by rfl) (fun K hK => ?_)
        refine ⟨.agg #[.string (S x.key), .string (S x.val)], fun w' hw' => ?_, hK _ ?_⟩
        · have hq' := hw'
          have z0 := kept_cell hw' h6; have z1 := kept_cell hw' u0; have z2 := kept_cell hw' u1; have z3 := kept_cell hw' e0; have z4 := kept_cell hw' e1; go_simp
        clear hK K
        (try simp only [Act.put, List.setIfInBounds_toArray, List.set_cons_zero, List.set_cons_succ])
        refine WQ.want (by rfl) (fun K hK => ?_)
        refine ⟨.bool false, fun w' hw' => ?_, hK _ ?_⟩
        · have hq' := hw'
          go_simp
        clear hK K
        (try simp only [Act.put, List.setIfInBounds_toArray, List.set_cons_zero, List.set_cons_succ])
        refine WQ.want (by rfl) (fun K hK => ?_)
        refine ⟨.bool false, fun w' hw' => ?_, hK _ ?_⟩
        · have hq' := hw'
          go_simp
        clear hK K
        (try simp only [Act.put, List.setIfInBounds_toArray, List.set_cons_zero, List.set_cons_succ])
        refine WQ.done ?_
        rintro w8 hX8
        have HS8 := Lib.hid (HS7.out.on hX8)
        replace hB6 := hB6.trans (hX8.mono hB6.size)
        clear hX8
        go_wp2_with fail
        exact ⟨⟨j + 1, k + 1, A', C', vb, by go_num, by omega, by go_num, by omega, HC', by omega, Lib.hid (by
          rcases HD.out with h | ⟨h, h'⟩
          · exact Or.inl (by omega)
          · exact Or.inr ⟨by omega, by omega⟩), HS8, hB6⟩, by simp [intOf]; omega⟩
      · obtain rfl : k = L.length := by omega
        rw [List.drop_length] at g5 g6
        simp at g5
        subst g5
        go_wp2_with fail
        refine HN.out.mono ?_
        rintro e w6 ⟨rfl, vb, hst, hch, hvb, -⟩
        have hB6 := hch.below hB (by omega) (Nat.le_refl _) HBV.out hB.size
        obtain ⟨aL', cL', h6, -⟩ := hst.sh.c0
        unfold tellV entO
        simp only [Option.isSome]
        clear hst hch hvb HN h0
        go_upto_region 10 with (fail)
        have hX6 := Below.refl w6.heap.size w6
        obtain ⟨W7, hW_W7⟩ : ∃ W7, W7 = (w6.alloc (.cells #[.string ⟨#[]⟩, .string ⟨#[]⟩] 55)) := ⟨_, rfl⟩
        rw [← hW_W7]
        have hX_W7 : Below w6.heap.size w6 W7 := by rw [hW_W7]; go_grown
        have u0 : W7.cell? ⟨w6.heap.size, 0, none⟩ = some (.string ⟨#[]⟩) := by rw [hW_W7, World.cell?_alloc_at _ _ _ _ (by simp)]; rfl
        have u1 : W7.cell? ⟨w6.heap.size, 1, none⟩ = some (.string ⟨#[]⟩) := by rw [hW_W7, World.cell?_alloc_at _ _ _ _ (by simp)]; rfl
        clear hW_W7
        have hz_W7 := hX_W7.size
        replace h6 := kept_cell hX_W7 h6
        replace hB6 := hB6.trans (hX_W7.mono hB6.size)
        replace hX6 := hX6.trans (hX_W7.mono hX6.size)
        clear hX_W7
        go_wp2_with fail
        refine (thread ((skip_nil _ W7).mono fun e w' h => (⟨h.1, h.2 ▸ Below.refl _ _⟩ : _ ∧ Below W7.heap.size W7 w')) W7.heap.size W7 (Below.refl _ _) (Nat.le_refl _)).mono ?_
        rintro e w8 ⟨rfl, hX8, -, -, -, hz8⟩
        replace h6 := kept_cell hX8 h6
        replace hB6 := hB6.trans (hX8.mono hB6.size)
        clear hX8
        go_wp2_with fail
        refine (thread (next_nil _) w8.heap.size w8 (Below.refl _ _) (Nat.le_refl _)).mono ?_
        rintro e w9 ⟨rfl, hX_w9, -, -, -, hz_w9⟩
        replace h6 := kept_cell hX_w9 h6
        replace hB6 := hB6.trans (hX_w9.mono hB6.size)
        clear hX_w9
        unfold tellV entO
        simp only [Option.isSome]
        go_upto_region 21 with (fail)
        obtain ⟨W10, hW_W10⟩ : ∃ W10, W10 = (w9.alloc (.cells #[.string ⟨#[]⟩, .string ⟨#[]⟩] 55)) := ⟨_, rfl⟩
        rw [← hW_W10]
        have hX_W10 : Below w9.heap.size w9 W10 := by rw [hW_W10]; go_grown
        have v0 : W10.cell? ⟨w9.heap.size, 0, none⟩ = some (.string ⟨#[]⟩) := by rw [hW_W10, World.cell?_alloc_at _ _ _ _ (by simp)]; rfl
        have v1 : W10.cell? ⟨w9.heap.size, 1, none⟩ = some (.string ⟨#[]⟩) := by rw [hW_W10, World.cell?_alloc_at _ _ _ _ (by simp)]; rfl
        clear hW_W10
        have hz_W10 := hX_W10.size
        replace h6 := kept_cell hX_W10 h6
        replace hB6 := hB6.trans (hX_W10.mono hB6.size)
        clear hX_W10
        go_wp2_with fail
        refine (thread ((rest_nil 1 W10).mono fun e w' h => (⟨h.1, h.2 ▸ Below.refl _ _⟩ : _ ∧ Below W10.heap.size W10 w')) W10.heap.size W10 (Below.refl _ _) (Nat.le_refl _)).mono ?_
        rintro e w11 ⟨rfl, hX11, -, -, -, hz11⟩
        replace h6 := kept_cell hX11 h6
        replace v0 := kept_cell hX11 v0
        replace v1 := kept_cell hX11 v1
        replace hB6 := hB6.trans (hX11.mono hB6.size)
        clear hX11
        go_wp2_with fail
        refine (thread ((new_nil _ _ 1 w11).mono fun e w' h => (⟨h.1, h.2 ▸ Below.refl _ _⟩ : _ ∧ Below w11.heap.size w11 w')) w11.heap.size w11 (Below.refl _ _) (Nat.le_refl _)).mono ?_
        rintro e w12 ⟨rfl, hX12, -, -, -, hz12⟩
        replace h6 := kept_cell hX12 h6
        replace v0 := kept_cell hX12 v0
        replace v1 := kept_cell hX12 v1
        replace hB6 := hB6.trans (hX12.mono hB6.size)
        clear hX12
        go_wp2_with fail
        go_ret
        exact ⟨rfl, hB6⟩
    · subst g5
      have hAl := hnf rfl
      have HC' := Lib.hid (show FlAt L k C' from ⟨HCC.out, g6⟩)
      have hD' : j + 1 ≤ k + 1 := by
        rcases HD.out with h | ⟨-, h⟩
        · omega
        · omega
      clear g6 hnf HCC
      go_wp2_with fail
      refine HN.out.mono ?_
      rintro e w6 ⟨rfl, vb, hst, hch, hvb, -⟩
      have hB6 := hch.below hB (by omega) (Nat.le_refl _) HBV.out hB.size
      have HS6 := Lib.hid hst
      unfold tellV entO
      simp only [Option.isSome]
      clear hst hch hvb HN h0
      go_upto_region 10 with (fail)
      have hX6 := Below.refl w6.heap.size w6
      obtain ⟨W7, hW_W7⟩ : ∃ W7, W7 = (w6.alloc (.cells #[.string ⟨#[]⟩, .string ⟨#[]⟩] 55)) := ⟨_, rfl⟩
      rw [← hW_W7]
      have hX_W7 : Below w6.heap.size w6 W7 := by rw [hW_W7]; go_grown
      have u0 : W7.cell? ⟨w6.heap.size, 0, none⟩ = some (.string ⟨#[]⟩) := by rw [hW_W7, World.cell?_alloc_at _ _ _ _ (by simp)]; rfl
      have u1 : W7.cell? ⟨w6.heap.size, 1, none⟩ = some (.string ⟨#[]⟩) := by rw [hW_W7, World.cell?_alloc_at _ _ _ _ (by simp)]; rfl
      clear hW_W7
      have hz_W7 := hX_W7.size
      replace hB6 := hB6.trans (hX_W7.mono hB6.size)
      replace hX6 := hX6.trans (hX_W7.mono hX6.size)
      clear hX_W7
      have HS7 := Lib.hid (HS6.out.on hX6)
      go_wp2_with fail
      exact ⟨⟨j + 1, k, A', C', vb, by go_num, by omega, rfl, hk, HC', by omega, Lib.hid (Or.inr ⟨hD', by omega⟩), HS7, hB6⟩, by simp [intOf]; omega⟩

end Go.Proofs.Ythcjcmalfnfjkaa
