/-
  The walk of lend.Read: numbers of bytes.
-/
import Derived.Test.YtcjeonamebnpfaaLend
import Derived.Laws.BitsAllLaws
import Derived.Laws.BitsLemmas
namespace Go.Proofs.Ytcjeonamebnpfaa
open Go.RowKit

theorem infoN : (Try.prog.info? 26).map (fun i => (i.zero, i.size, i.bytes)) = some (some (.int .u64 0), 1, 8) := by kernel_rfl
def numsV (ps : List (Nat × Nat)) : List Value := ps.map fun p => .int .u64 p.2
theorem numsV_snoc (l : List (Nat × Nat)) (p : Nat × Nat) : numsV (l ++ [p]) = numsV l ++ [.int .u64 p.2] := by simp [numsV]
theorem numsV_len (l : List (Nat × Nat)) : (numsV l).length = l.length := by simp [numsV]
/-- A row of the call's own reads as numbers. -/
theorem nums_of_own {w : World} {B : Nat} {v : Value} {ps : List (Nat × Nat)} (h : w.ownsRow B 26 1 v ps.length (numsV ps)) : ∃ ao c, v = .slice ao ps.length c ∧ NumsW w ao ps := by
  rcases ownsRow_open h with ⟨rfl, h0, -⟩ | ⟨g, cap, cur, rfl, -, hr, h3, -, h5, h6⟩
  · obtain rfl := List.eq_nil_of_length_eq_zero h0
    exact ⟨none, 0, rfl, Or.inl rfl⟩
  · refine ⟨_, cap, rfl, Or.inr ⟨g, 0, rfl, hr.lt, fun i hi j x hx => ?_⟩⟩
    have hj : j = 0 := by
      have := (List.getElem?_eq_some_iff.1 hx).1
      simpa using this
    subst hj
    have e : (numsV ps)[i]? = some (.int .u64 ps[i].2) := by simp [numsV, hi]
    rw [← h6, List.getElem?_take, if_pos (by omega)] at e
    rw [hr.cell, show 0 + i * 1 + 0 = i by omega, e]
    simpa using hx

theorem pow256 (q : Nat) : 256 ^ q = 2 ^ (8 * q) := by rw [Nat.pow_mul]
theorem or_byte (n q : Nat) (hq : q < 8) : bits .or .u64 ((n % 256 ^ q : Nat) : Int) (IntKind.u64.wrap ((n : Int) / 256 ^ q % 256 * 2 ^ (8 * q))) = ((n % 256 ^ (q + 1) : Nat) : Int) := by
  have e : (n : Int) / 256 ^ q % 256 * 2 ^ (8 * q) = ((n / 256 ^ q % 256 * 2 ^ (8 * q) : Nat) : Int) := by simp
  have h1 : n / 256 ^ q % 256 < 256 := Nat.mod_lt _ (by decide)
  have h2 : 256 * 2 ^ (8 * q) ≤ 18446744073709551616 := by
    rw [← pow256, ← Nat.pow_succ']; exact pow_le8 hq
  have hb : n / 256 ^ q % 256 * 2 ^ (8 * q) < 18446744073709551616 := Nat.lt_of_lt_of_le (Nat.mul_lt_mul_of_pos_right h1 (Nat.two_pow_pos _)) h2
  have ha : n % 256 ^ q < 2 ^ (8 * q) := by rw [← pow256]; exact Nat.mod_lt _ (Nat.pow_pos (by decide))
  have ha' : n % 256 ^ q < 18446744073709551616 := Nat.lt_of_lt_of_le ha (by rw [← pow256]; exact pow_le8 (by omega))
  have hor : n % 256 ^ q ||| n / 256 ^ q % 256 * 2 ^ (8 * q) = n % 256 ^ (q + 1) := by
    rw [Nat.or_comm, Nat.mul_comm, ← Nat.two_pow_add_eq_or_of_lt ha, Nat.pow_succ, Nat.mod_mul, ← pow256, Nat.add_comm]
  rw [e, ← hor]
  generalize n / 256 ^ q % 256 * 2 ^ (8 * q) = y at *
  generalize n % 256 ^ q = x at *
  rw [IntKind.wrap_u64, Int.emod_eq_of_lt (Int.natCast_nonneg _) (by omega), u64_or_nat _ _ ha' hb]

set_option maxRecDepth 100000 in
set_option maxHeartbeats 2000000 in
theorem read_ok (aw : Option Addr) (cw : Nat) (ps : List (Nat × Nat)) (rest : List UInt8) (w : World) (hsw : IntsW w aw ps) (hw : Wide ps) (hf : Fit ps) (hl : ps.length ≤ 1000) (hr : rest.length ≤ 1000000) :
    Calls Try.prog 79 #[.slice aw ps.length cw, .string (S (wtext ps ++ rest))] w fun e w' => (∃ ao c, e = .returned (.tuple #[.slice ao ps.length c, .string (S rest), .bool true]) ∧ NumsW w' ao ps) ∧ Below w.heap.size w w' := by
  obtain ⟨i0, hi, hz0, hz1, hz2⟩ := info_parts infoN
  have hsl := sumW_le hw
  have hsum : sumW ps ≤ 8000 := by omega
  clear hsl
  have hlen : (wtext ps ++ rest).length = sumW ps + rest.length := by rw [List.length_append, wtext_len]
  have hge : ¬ ((sumW ps : Int) + (rest.length : Int) < (sumW ps : Int)) := by omega
  go_enter Try.func79, Try.ntmps79
  go_wp2_with (first | (go_at_call 88; refine (right_any _ _ _ _ hsw hw hl).mono ?_; rintro e w' ⟨rfl, rfl⟩) | (go_at_call 89; refine (size_any _ _ _ _ hsw hw hl).mono ?_; rintro e w' ⟨rfl, rfl⟩))
  clear hlen hge
  go_loopw [1, 7, 24] (fun s v i wr => ∃ k : Nat, i = .int .i64 k ∧ k ≤ ps.length ∧ s = .string (S (wtext (ps.drop k) ++ rest)) ∧ wr.ownsRow w.heap.size 26 1 v (ps.take k).length (numsV (ps.take k)) ∧ Below w.heap.size w wr) (fun _ _ i _ => ps.length - (intOf i).toNat)
  case atStart => exact ⟨0, rfl, Nat.zero_le _, rfl, World.ownsRow_nil _ _ _ _, Below.refl _ _⟩
  case round =>
    obtain ⟨k, rfl, hk, rfl, hown, hB⟩ := hrel
    have hk0 : (0 : Int) ≤ (k : Int) := by omega
    have hlt : (ps.take k).length = k := by rw [List.length_take]; omega
    by_cases hkl : k < ps.length
    · have hk1 : (k : Int) < (ps.length : Int) := by omega
      obtain ⟨bw, ow, rfl, hbw, hcw⟩ := hsw.at (by omega)
      have cw0 := (hB.cell (p := ⟨bw, ow + k * 1 + 0, none⟩) hbw).trans (hcw k hkl 0 _ rfl)
      rw [Nat.mul_one, Nat.add_zero] at cw0
      obtain ⟨hm1, hm8⟩ := hw _ (List.getElem_mem hkl)
      have hnf := hf _ (List.getElem_mem hkl)
      have hsnoc := Lib.hid (show numsV (ps.take (k + 1)) = numsV (ps.take k) ++ [.int .u64 ps[k].2] by rw [List.take_succ_eq_append_getElem hkl, numsV_snoc])
      have hdrop : wtext (ps.drop k) ++ rest = le ps[k].2 ps[k].1 ++ (wtext (ps.drop (k + 1)) ++ rest) := by
        rw [List.drop_eq_getElem_cons hkl, ← List.append_assoc]; rfl
      rw [hdrop]
      have htl : (wtext (ps.drop (k + 1)) ++ rest).length ≤ 1008000 := by
        rw [List.length_append, wtext_len]
        have := sumW_le (l := ps.drop (k + 1)) (fun p hp => hw p (List.mem_of_mem_drop hp))
        rw [List.length_drop] at this; omega
      clear hcw hdrop
      generalize ps[k].1 = m at *
      generalize ps[k].2 = n at *
      generalize htle : wtext (ps.drop (k + 1)) ++ rest = tl at *
      have htle' := Lib.hid htle
      have hn64 : n < 18446744073709551616 := Nat.lt_of_lt_of_le hnf (pow_le8 hm8)
      have hnf' := Lib.hid hnf
      have hle := le_length n m
      clear hnf htle
      have hsz : (le n m ++ tl).length = m + tl.length := by rw [List.length_append, hle]
      go_wp2_with fail
      go_loop [10, 29] (fun x j => ∃ q : Nat, j = .int .i64 q ∧ q ≤ m ∧ x = .int .u64 (n % 256 ^ q : Nat)) (fun _ j => m - (intOf j).toNat)
      case atStart => exact ⟨0, rfl, Nat.zero_le _, by simp [Nat.mod_one]⟩
      case round =>
        obtain ⟨q, rfl, hq, rfl⟩ := hrel
        have hq0 : (0 : Int) ≤ (q : Int) := by omega
        by_cases hqm : q < m
        · have hqm' : (q : Int) < (m : Int) := by omega
          have hq8 : q < 8 := by omega
          have hqs : (q : Int) < (m : Int) + (tl.length : Int) := by omega
          have hxl : n % 256 ^ q < 256 ^ q := Nat.mod_lt _ (Nat.pow_pos (by decide))
          have hbyte : (le n m ++ tl)[q]'(by omega) = UInt8.ofNat (n / 256 ^ q % 256) := by rw [List.getElem_append_left (by omega)]; simp [le]
          have hob := Lib.hid (or_byte n q hq8)
          generalize n % 256 ^ q = x at *
          go_wp2_with fail
          go_round
          case rel => exact ⟨q + 1, by go_num, by omega, by rw [hob.out]⟩
          case measure => first | (simp [intOf]; done) | (simp [intOf]; omega)
        · obtain rfl : q = m := by omega
          have hmod : n % 256 ^ q = n := Nat.mod_eq_of_lt hnf'.out
          rw [hmod]
          have hq1 : (q : Int) ≤ (q : Int) + (tl.length : Int) := by omega
          have hcut : Hid ((le n q ++ tl).drop q = tl) := Lib.hid (by rw [List.drop_append_of_le_length (by omega), List.drop_of_length_le (by omega), List.nil_append])
          clear hmod
          go_wp2_with fail
          rw [hlt] at hown
          obtain ⟨ao', c', e'⟩ := own_form hown
          subst e'
          go_region_law (refine step_append_own rfl _ _ 141 rfl w.heap.size 26 i0 (.int .u64 0) 1 8 Try.underlying141 hi hz0 hz1 hz2 rfl (by decide) (.slice ao' k c') k _ (by simp [Act.eval]) ((hown.alloc (.cells #[.int .u64 n] 26)).drew) ⟨wr.heap.size, 0, none⟩ 1 1 [.int .u64 n] (by simp [Act.eval]) rfl (cell_one_new _ _ _) (by intro u hu; simp at hu; subst hu; rfl) (by unfold maxLen; omega) (by omega) (by have := hB.size; simp; omega) ?_; intro v' w3 hown3 hg3 hat3)
          go_wp2_with fail
          go_roundw
          case rel =>
            refine ⟨k + 1, by go_num, by omega, ?_, ?_, ?_⟩
            · rw [htle'.out]
            · rw [hsnoc.out, List.length_take, Nat.min_eq_left (by omega)]
              exact hown3
            · exact below_grown (below_drew' (hB.alloc hB.size _)) hg3 (fun k e => (hown.lt k e).1) (by have := hB.size; simp; omega)
          case measure => first | (simp [intOf]; done) | (simp [intOf]; omega)
    · obtain rfl : k = ps.length := by omega
      rw [List.take_length] at hown
      obtain ⟨ao, c, rfl, hN⟩ := nums_of_own hown
      rw [List.drop_length]
      clear hown
      go_wp2_with fail
      go_ret3
      exact ⟨⟨ao, c, rfl, hN⟩, hB⟩

set_option maxHeartbeats 1000000 in
theorem read_short (aw : Option Addr) (cw : Nat) (ps : List (Nat × Nat)) (s : List UInt8) (w : World) (hsw : IntsW w aw ps) (hw : Wide ps) (hl : ps.length ≤ 1000) (hs : s.length < sumW ps) :
    Calls Try.prog 79 #[.slice aw ps.length cw, .string (S s)] w fun e w' => e = .returned (.tuple #[.slice none 0 0, .string (S []), .bool false]) ∧ w = w' := by
  have hlt : (s.length : Int) < (sumW ps : Int) := by omega
  go_enter Try.func79, Try.ntmps79
  go_wp2_with (first | (go_at_call 88; refine (right_any _ _ _ _ hsw hw hl).mono ?_; rintro e w' ⟨rfl, rfl⟩) | (go_at_call 89; refine (size_any _ _ _ _ hsw hw hl).mono ?_; rintro e w' ⟨rfl, rfl⟩))
  go_ret3
  exact ⟨rfl, rfl⟩

/-- The number of some bytes, the least significant ones first. -/
def numL : List UInt8 → Nat
  | [] => 0
  | b :: r => b.toNat + 256 * numL r
theorem numL_lt : ∀ l : List UInt8, numL l < 256 ^ l.length
  | [] => by simp [numL]
  | b :: r => by
    have h1 := numL_lt r
    have h2 := b.toNat_lt
    simp only [numL, List.length_cons, Nat.pow_succ]; omega
theorem le_cons (n k : Nat) : le n (k + 1) = UInt8.ofNat (n % 256) :: le (n / 256) k := by
  simp only [le, List.range_succ_eq_map, List.map_cons, List.map_map, Nat.pow_zero, Nat.div_one]
  congr 1
  refine List.map_congr_left fun i _ => ?_
  simp only [Function.comp, Nat.succ_eq_add_one]
  rw [Nat.pow_succ', ← Nat.div_div_eq_div_mul]
theorem le_numL : ∀ l : List UInt8, le (numL l) l.length = l
  | [] => rfl
  | b :: r => by
    have h2 := b.toNat_lt
    have e1 : (b.toNat + 256 * numL r) % 256 = b.toNat := by omega
    have e2 : (b.toNat + 256 * numL r) / 256 = numL r := by omega
    rw [List.length_cons, le_cons, numL, e1, e2, le_numL r]
    simp
theorem numL_le : ∀ (k n : Nat), numL (le n k) = n % 256 ^ k
  | 0, n => by simp [le, numL, Nat.mod_one]
  | k + 1, n => by
    rw [le_cons, numL, numL_le k, Nat.pow_succ', Nat.mod_mul]
    simp
/-- A text with enough bytes is numbers of some widths, and what is left. -/
theorem as_nums : ∀ (ws : List Nat) (s : List UInt8), ws.sum ≤ s.length → ∃ (ps : List (Nat × Nat)) (rest : List UInt8), ps.map Prod.fst = ws ∧ Fit ps ∧ s = wtext ps ++ rest
  | [], s, _ => ⟨[], s, rfl, fun p hp => by simp at hp, rfl⟩
  | m :: ws, s, h => by
    rw [List.sum_cons] at h
    obtain ⟨ps, rest, h1, h2, h3⟩ := as_nums ws (s.drop m) (by rw [List.length_drop]; omega)
    have hl : (s.take m).length = m := by rw [List.length_take]; omega
    refine ⟨(m, numL (s.take m)) :: ps, rest, by simp [h1], fun p hp => ?_, ?_⟩
    · rcases List.mem_cons.1 hp with rfl | hp
      · have := numL_lt (s.take m)
        rwa [hl] at this
      · exact h2 p hp
    · have e := le_numL (s.take m)
      rw [hl] at e
      show s = (le (numL (s.take m)) m ++ wtext ps) ++ rest
      rw [e, List.append_assoc, ← h3, List.take_append_drop]
theorem intsW_new (w : World) (c : Array Value) (e : TypeId) (fz : Nat × Nat) (ps : List (Nat × Nat)) (hc : c.toList = ps.map fun p => .int .i64 p.1) : IntsW (w.alloc (.cells c e fz)) (some ⟨w.heap.size, 0, none⟩) ps :=
  SlAt.new w c e fz ps (fun _ _ => rfl) (by rw [hc, List.map_eq_flatMap])
theorem numsW_new (w : World) (c : Array Value) (e : TypeId) (fz : Nat × Nat) (ps : List (Nat × Nat)) (hc : c.toList = ps.map fun p => .int .u64 p.2) : NumsW (w.alloc (.cells c e fz)) (some ⟨w.heap.size, 0, none⟩) ps :=
  SlAt.new w c e fz ps (fun _ _ => rfl) (by rw [hc, List.map_eq_flatMap])

theorem wide1 (m n : Nat) (h1 : 1 ≤ m) (h2 : m ≤ 8) : Wide [(m, n)] := by
  intro p hp
  simp only [List.mem_singleton] at hp
  subst hp
  exact ⟨h1, h2⟩
theorem as_num1 (m : Nat) (s : List UInt8) (h : m ≤ s.length) : ∃ (n : Nat) (rest : List UInt8), Fit [(m, n)] ∧ s = wtext [(m, n)] ++ rest := by
  have hl : (s.take m).length = m := by rw [List.length_take]; omega
  refine ⟨numL (s.take m), s.drop m, fun p hp => ?_, ?_⟩
  · simp only [List.mem_singleton] at hp
    subst hp
    have := numL_lt (s.take m)
    rwa [hl] at this
  · have e := le_numL (s.take m)
    rw [hl] at e
    simp only [wtext, List.flatMap_cons, List.flatMap_nil, List.append_nil]
    rw [e, List.take_append_drop]

end Go.Proofs.Ytcjeonamebnpfaa
