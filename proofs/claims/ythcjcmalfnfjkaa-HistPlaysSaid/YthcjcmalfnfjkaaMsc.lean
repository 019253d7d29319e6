/-
  The walks of a model's Scan of all, its Equal; entries held against each other.
-/
import Derived.Test.YthcjcmalfnfjkaaMod
import Derived.Test.YthcjcmalfnfjkaaMaa
import Derived.Deep.RegionLawGrows
namespace Go.Proofs.Ythcjcmalfnfjkaa
open Go.RowKit Go.Maps Go.WideShapes Go.Shelf
set_option linter.unusedVariables false
attribute [local go_sem ↓] Go.wp_at_zero Go.wp_at_succ

theorem cell_twoM (w : World) (b : Nat) (hb : w.heap.size = b) (x y : Value) (t : TypeId) : ∀ j v, [x, y][j]? = some v → (w.alloc (.cells #[x, y] t)).cell? ((⟨b, 0, none⟩ : Addr).add j) = some v := by
  subst hb
  exact cell_two_new w x y t
theorem two_oneM (x y : ByteArray) : ∀ u ∈ [Value.string x, .string y], u.oneCell' = true := by
  intro u hu
  simp only [List.mem_cons, List.not_mem_nil, or_false] at hu
  rcases hu with rfl | rfl <;> rfl
theorem cellsE_snocM (l : List Ent) (u : Ent) : cellsE (l ++ [u]) = cellsE l ++ [.string (S u.key), .string (S u.val)] := by simp [cellsE, Ent.cells]
/-- A row of texts. -/
theorem own_str {w : World} {B n : Nat} {v : Value} {ss : List (List UInt8)} (h : w.ownsRow B 9 1 v n (ss.map encStr)) : ss.length = n ∧ ∃ ao c, v = .slice ao n c ∧ SlAt (fun s : List UInt8 => [Value.string (S s)]) 1 w ao ss := by
  have hn : ss.length = n := by have := h.1; rw [List.length_map] at this; omega
  refine ⟨hn, ?_⟩
  subst hn
  obtain ⟨ao, c, rfl⟩ := own_form h
  refine ⟨ao, c, rfl, ?_⟩
  by_cases h0 : ss = []
  · exact Or.inl h0
  · right
    obtain ⟨g, hg, h1, h2, h3⟩ := own_at h (List.length_pos_iff.2 h0)
    refine ⟨g, 0, hg, h2, fun i hi j x hx => ?_⟩
    cases j with
    | zero =>
      simp only [List.getElem?_cons_zero, Option.some.injEq] at hx
      subst hx
      rw [Nat.zero_add, Nat.mul_one, Nat.add_zero]
      exact h3 i _ (by rw [List.getElem?_map, List.getElem?_eq_getElem hi]; rfl)
    | succ j => simp at hx

set_option maxRecDepth 100000 in
set_option maxHeartbeats 8000000 in
theorem modScan_any (p b : Nat) (l : List Ent) (most : Nat) (w : World) (h : ModAt w p b l) (hl : l.length ≤ 1000) (hm : most ≤ 1000000) :
    Calls Try.prog 24 #[.pointer (some ⟨p, 0, none⟩), .string ByteArray.empty, .string ByteArray.empty, .int .i64 (most : Nat)] w fun e w' => (∃ v, e = .returned v ∧ w'.ownsRow w.heap.size 55 2 v (l.take most).length (cellsE (l.take most))) ∧ Below w.heap.size w w' := by
  obtain ⟨j0, hjE, jz0, jz1, jz2⟩ := info_parts infoE
  have hc := h.cell
  have HM := Lib.hid h.map
  clear h
  go_enter Try.func24, Try.ntmps24
  go_wp2_with fail
  refine (keys_any (some b) w).mono ?_
  rintro e w1 ⟨rfl, rfl⟩
  go_wp2_with fail
  obtain ⟨D, h1, h2⟩ := HM.out.own
  have hsz := h2.size
  refine (sorted_any b l.length D _ w h1 (by rw [hsz]; unfold maxLen; omega) (by rw [hsz]; omega)).mono ?_
  rintro e w2 ⟨v, ss, rfl, hperm, hrow, -, hX⟩
  have hsort := h2.sorted HM.out.rise hperm
  rw [hsort] at hrow
  have hlen : ss.length = l.length := by have := congrArg List.length hsort; simpa using this
  rw [hlen] at hrow
  obtain ⟨hln, ao, c, rfl, hsl⟩ := own_str hrow
  have HR := Lib.hid hsl
  have hc2 := kept_cell hX hc
  have HM2 := Lib.hid (HM.out.below hX)
  clear hrow hsl hsort hperm h1 h2 hlen HM hc
  have hz2 := hX.size
  have hbw : p < w2.heap.size := cell_lt hc2
  go_wp2_with fail
  go_loopw [21, 9] (fun i v wr => ∃ (j n : Nat), i = .int .i64 j ∧ j ≤ l.length ∧ Hid (n = min j most) ∧ wr.ownsRow w2.heap.size 55 2 v n (cellsE (l.take n)) ∧ Below w2.heap.size w2 wr) (fun i _ _ => l.length - (intOf i).toNat)
  case atStart => exact ⟨0, 0, rfl, Nat.zero_le _, Lib.hid (by simp), by simpa [cellsE] using World.ownsRow_nil w2 w2.heap.size 55 2, Below.refl _ _⟩
  case round =>
    obtain ⟨j, n, rfl, hj, HN, hown, hX2⟩ := hrel
    have hj0 : (0 : Int) ≤ (j : Int) := Int.natCast_nonneg _
    obtain ⟨ov, oc, eo⟩ := own_form hown
    subst eo
    have HO := Lib.hid hown
    clear hown
    have hzr := hX2.size
    by_cases hjl : j < l.length
    · have hj1 : (j : Int) < (l.length : Int) := by omega
      have hjk : j < (l.map Ent.key).length := by simpa using hjl
      obtain ⟨b', off, rfl, hb', hcl⟩ := HR.out.at (by omega)
      have q0 := (cell_below hX2 hb' _).trans (hcl j hjk 0 _ rfl)
      rw [Nat.add_zero, Nat.mul_one, List.getElem_map] at q0
      have hb1 : bl (l[j].key) [] = false := bl_nil _
      have hb2 : Op.bytesLess (l[j].key) [] = false := hb1
      have r0 := (cell_below hX2 hbw 0).trans hc2
      have hlook := fun W (hW : MapIs W b l) => hW.look1 l[j].key l[j].val (by have := (HM2.out.fine _ (List.getElem_mem hjl)).2.1; omega) (lookE_at HM2.out.rise j hjl)
      have HT := Lib.hid (show l.take (j + 1) = l.take j ++ [l[j]] from List.take_succ_eq_append_getElem hjl)
      have HMr := Lib.hid (HM2.out.below hX2)
      have hlk := hlook wr HMr.out
      clear hcl hlook
      by_cases hjm : j < most
      · obtain rfl : n = j := by have := HN.out; omega
        have HN1 := Lib.hid (show n + 1 = min (n + 1) most by omega)
        have hjm1 : (n : Int) < (most : Int) := by omega
        generalize l[n] = u at *
        go_wp2_with (at_builtin; go_must (refine wpList_append_own_at _ rfl (.tmp 43) (.tmp 52) 49 rfl w2.heap.size 55 j0 (.agg #[.string ByteArray.empty, .string ByteArray.empty]) 2 32 Try.underlying49 hjE jz0 jz1 jz2 rfl (by decide) _ n _ rfl (HO.out.alloc _) ⟨wr.heap.size, 0, none⟩ 1 1 [.string (S u.key), .string (S u.val)] rfl rfl (cell_twoM _ _ rfl _ _ _) (two_oneM _ _) (by unfold maxLen; omega) (by omega) (by simp; omega) ?_; intro vz wz hownwz hgrowwz hzz hbz))
        go_wp2_with fail
        exact ⟨⟨n + 1, n + 1, by go_num, by omega, HN1, by rw [HT.out, cellsE_snocM]; exact hownwz, below_grown (hX2.alloc (by omega) _) hgrowwz (fun k e => (HO.out.lt k e).1) (by simp; omega)⟩, by simp [intOf]; omega⟩
      · obtain rfl : n = most := by have := HN.out; omega
        have HN1 := Lib.hid (show n = min (j + 1) n by omega)
        have hjm1 : ¬ (n : Int) < (n : Int) := by omega
        generalize l[j] = u at *
        go_wp2_with fail
        exact ⟨⟨j + 1, n, by go_num, by omega, HN1, HO.out, hX2⟩, by simp [intOf]; omega⟩
    · obtain rfl : j = l.length := by omega
      have HF := Lib.hid (show l.take (min l.length most) = l.take most by
        by_cases hq : l.length ≤ most
        · rw [Nat.min_eq_left hq, List.take_length, List.take_of_length_le hq]
        · rw [Nat.min_eq_right (by omega)])
      go_wp2_with fail
      go_ret
      refine ⟨⟨_, rfl, ?_⟩, hX.trans (hX2.mono hz2)⟩
      have hle : (l.take most).length = n := by rw [List.length_take]; have := HN.out; omega
      have h7 : l.take n = l.take most := by rw [HN.out]; exact HF.out
      rw [hle, ← h7]
      have := HO.out
      exact ownsRow_base_a this hz2

end Go.Proofs.Ythcjcmalfnfjkaa
