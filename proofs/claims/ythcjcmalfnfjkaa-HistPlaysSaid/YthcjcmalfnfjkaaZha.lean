/-
  The walks of layer 1 (lend): widths, numbers as bytes.
  The walk of lend.Read: numbers of bytes.
  The walks of layer 14 (msg): numbers as values, what an update makes of a value; the plain words for it.
  The walks of msg.On, msg.Join.
  The walks of the document's layer 1: a number in a width.
  The walks of the document's Get of a number, and of its On of a value.
  The walk of slices.Insert of one element into a row of the call's own, at entries.
  The walk of slices.Delete of one element of a row of the call's own, at entries.
  The walks of the document's layer 12: whether an update may be; the bytes of updates.
  The walk of (rec.Update).Check: as the document's.
-/
import Derived.Test.YthcjcmalfnfjkaaZa
import Derived.Lib.Walk
import Derived.Laws.BitsAllLaws
import Derived.Laws.BitsLemmas
import Derived.BigQuiet
import Derived.Deep.DrawnRows
import Derived.Deep.Light
namespace Go.Proofs.Ythcjcmalfnfjkaa
open Go.RowKit

theorem infoB : (Try.prog.info? 5).map (fun i => (i.zero, i.size, i.bytes)) = some (some (.int .u8 0), 1, 1) := by kernel_rfl
/-- Bytes, as cells. -/
def bytesV (l : List UInt8) : List Value := l.map fun b => .int .u8 b.toNat
theorem bytesV_len (l : List UInt8) : (bytesV l).length = l.length := by simp [bytesV]
theorem bytesV_append (a b : List UInt8) : bytesV (a ++ b) = bytesV a ++ bytesV b := by simp [bytesV]
theorem nil_string (w : World) : (convert 61 9 (.slice none 0 0)).run Try.prog w = .ok (.string (S [])) w := by kernel_rfl
theorem map_back (l : List UInt8) : (l.map fun b => (b.toNat : Int)).map (fun n : Int => UInt8.ofNat n.toNat) = l := by
  rw [List.map_map]
  conv => rhs; rw [← List.map_id l]
  exact List.map_congr_left fun b _ => by simp
/-- 'string(b)', b a row of the call's own. -/
theorem own_string {B n : Nat} {v : Value} {l : List UInt8} {w : World} (h : w.ownsRow B 5 1 v n (bytesV l)) : (convert 61 9 v).run Try.prog w = .ok (.string (S l)) w := by
  have hn := h.1
  rw [bytesV_len, Nat.mul_one] at hn
  subst hn
  rcases ownsRow_open h with ⟨rfl, h0, -⟩ | ⟨g, cap, cur, rfl, -, hr, h3, -, h5, h6⟩
  · obtain rfl := List.eq_nil_of_length_eq_zero h0
    exact nil_string w
  · have := run_convert_bytes_arg (P := Try.prog) w 61 5 Try.underlying61 Try.underlying5 g 0 l.length cap (l.map fun b => (b.toNat : Int)) (by simp) (fun i hi => by
      rw [Nat.zero_add, hr.cell]
      have e : (bytesV l)[i]? = some (.int .u8 (l[i].toNat)) := by simp [bytesV, hi]
      rw [← h6, List.getElem?_take, if_pos (by omega)] at e
      rw [e]; simp [hi]) 9 Try.underlying9
    rw [this, strOfNums_S, map_back]

/-- Widths, and numbers. -/
abbrev IntsW (w : World) (ao : Option Addr) (ps : List (Nat × Nat)) : Prop := SlAt (fun p : Nat × Nat => [Value.int .i64 p.1]) 1 w ao ps
abbrev NumsW (w : World) (ao : Option Addr) (ps : List (Nat × Nat)) : Prop := SlAt (fun p : Nat × Nat => [Value.int .u64 p.2]) 1 w ao ps
/-- Each is a width. -/
def Wide (ps : List (Nat × Nat)) : Prop := ∀ p ∈ ps, 1 ≤ p.1 ∧ p.1 ≤ 8
def sumW : List (Nat × Nat) → Nat
  | [] => 0
  | p :: r => p.1 + sumW r
theorem sumW_snoc (l : List (Nat × Nat)) (p : Nat × Nat) : sumW (l ++ [p]) = sumW l + p.1 := by
  induction l with
  | nil => simp [sumW]
  | cons q l ih => simp [sumW, ih]; omega
theorem sumW_le : ∀ {l : List (Nat × Nat)}, Wide l → l.length ≤ sumW l ∧ sumW l ≤ 8 * l.length
  | [], _ => by simp [sumW]
  | p :: r, h => by
    have h1 := h p (by simp)
    have h2 := sumW_le (l := r) fun q hq => h q (by simp [hq])
    simp only [sumW, List.length_cons]; omega
theorem Wide.take {l : List (Nat × Nat)} (h : Wide l) (n : Nat) : Wide (l.take n) := fun p hp => h p (List.mem_of_mem_take hp)

set_option maxHeartbeats 400000 in
theorem may_yes (n : Nat) (h1 : 1 ≤ n) (h2 : n ≤ 8) (w : World) : Calls Try.prog 76 #[.int .i64 n] w fun e w' => e = .returned (.bool true) ∧ w = w' := by
  have h1' : (1 : Int) ≤ (n : Int) := by omega
  have h2' : (n : Int) ≤ 8 := by omega
  go_enter Try.func76, Try.ntmps76
  go_wp2
  go_ret
  exact ⟨rfl, rfl⟩

set_option maxHeartbeats 1000000 in
theorem size_any (ao : Option Addr) (c : Nat) (ps : List (Nat × Nat)) (w : World) (hs : IntsW w ao ps) (hw : Wide ps) (hl : ps.length ≤ 1000) :
    Calls Try.prog 63 #[.slice ao ps.length c] w fun e w' => e = .returned (.int .i64 (sumW ps)) ∧ w = w' := by
  go_enter Try.func63, Try.ntmps63
  go_wp2_with fail
  go_loop [3, 8] (fun s i => ∃ k : Nat, i = .int .i64 k ∧ k ≤ ps.length ∧ s = .int .i64 (sumW (ps.take k))) (fun _ i => ps.length - (intOf i).toNat)
  case atStart => exact ⟨0, rfl, Nat.zero_le _, rfl⟩
  case round =>
    obtain ⟨k, rfl, hk, rfl⟩ := hrel
    have hk0 : (0 : Int) ≤ (k : Int) := by omega
    by_cases hkl : k < ps.length
    · have hk1 : (k : Int) < (ps.length : Int) := by omega
      obtain ⟨b, off, rfl, hb, hc⟩ := hs.at (by omega)
      have hck := hc k hkl 0 _ rfl
      rw [Nat.mul_one, Nat.add_zero] at hck
      have hp := hw _ (List.getElem_mem hkl)
      obtain ⟨hp1, hp2⟩ := hp
      have hsn := Lib.hid (show sumW (ps.take (k + 1)) = sumW (ps.take k) + ps[k].1 by rw [List.take_succ_eq_append_getElem hkl, sumW_snoc])
      have hsl := sumW_le (hw.take k)
      rw [List.length_take] at hsl
      obtain ⟨hsl1, hsl2⟩ := hsl
      have hsl3 : sumW (ps.take k) ≤ 8000 := by omega
      clear hc hsl1 hsl2
      generalize ps[k].1 = n at *
      generalize hsk : sumW (ps.take k) = s at *
      have hsk' := Lib.hid hsk
      clear hsk
      go_wp2_with (go_at_call 76; refine (may_yes _ hp1 hp2 _).mono ?_; rintro e w' ⟨rfl, rfl⟩)
      go_round
      case rel => exact ⟨k + 1, by go_num, by omega, by rw [hsn.out]; go_num⟩
      case measure => first | (simp [intOf]; done) | (simp [intOf]; omega)
    · obtain rfl : k = ps.length := by omega
      rw [List.take_length]
      go_wp2_with fail
      go_ret
      exact ⟨rfl, rfl⟩

set_option maxHeartbeats 400000 in
theorem right_any (ao : Option Addr) (c : Nat) (ps : List (Nat × Nat)) (w : World) (hs : IntsW w ao ps) (hw : Wide ps) (hl : ps.length ≤ 1000) :
    Calls Try.prog 62 #[.slice ao ps.length c] w fun e w' => e = .returned (.bool true) ∧ w = w' := by
  by_cases h0 : ps.length = 0
  · have h0' : ((ps.length : Int) == 0) = true := by simpa using h0
    clear h0
    go_enter Try.func62, Try.ntmps62
    go_wp2_with fail
    go_ret
    exact ⟨rfl, rfl⟩
  · have h0' : ((ps.length : Int) == 0) = false := by simpa using h0
    have hsl := sumW_le hw
    have hp : decide (0 < sumW ps) = true := by simp; omega
    clear hsl
    go_enter Try.func62, Try.ntmps62
    go_wp2_with (go_at_call 63; refine (size_any _ _ _ _ hs hw hl).mono ?_; rintro e w' ⟨rfl, rfl⟩)
    go_ret
    exact ⟨rfl, rfl⟩

/-- The text with its length ahead; the cut of such a one. -/
def splitL (s : List UInt8) : List UInt8 × List UInt8 × Bool :=
  match s with
  | [] => ([], [], false)
  | b :: r => if r.length < b.toNat then ([], [], false) else (r.take b.toNat, r.drop b.toNat, true)
def splitV (s : List UInt8) : Value := .tuple #[.string (S (splitL s).1), .string (S (splitL s).2.1), .bool (splitL s).2.2]

/-- Numbers as bytes. -/
def wtext (ps : List (Nat × Nat)) : List UInt8 := ps.flatMap fun p => le p.2 p.1
theorem wtext_snoc (l : List (Nat × Nat)) (p : Nat × Nat) : wtext (l ++ [p]) = wtext l ++ le p.2 p.1 := by simp [wtext]
theorem wtext_len (l : List (Nat × Nat)) : (wtext l).length = sumW l := by
  induction l with
  | nil => rfl
  | cons p l ih => simp only [wtext, List.flatMap_cons, List.length_append, le_length, sumW] at *; rw [ih]
/-- Each has room in its width. -/
def Fit (ps : List (Nat × Nat)) : Prop := ∀ p ∈ ps, p.2 < 256 ^ p.1
theorem pow_le8 {k : Nat} (h : k ≤ 8) : 256 ^ k ≤ 18446744073709551616 := Nat.le_trans (Nat.pow_le_pow_right (by decide) h) (by decide)

set_option maxRecDepth 100000 in
set_option maxHeartbeats 2000000 in
theorem write_fit (aw an : Option Addr) (cw cn : Nat) (ps : List (Nat × Nat)) (w : World) (hsw : IntsW w aw ps) (hsn : NumsW w an ps) (hw : Wide ps) (hf : Fit ps) (hl : ps.length ≤ 1000) :
    Calls Try.prog 64 #[.slice aw ps.length cw, .slice an ps.length cn] w fun e w' => e = .returned (.tuple #[.string (S (wtext ps)), .bool true]) ∧ Below w.heap.size w w' := by
  obtain ⟨i0, hi, hz0, hz1, hz2⟩ := info_parts infoB
  have hsl := sumW_le hw
  have hsum : sumW ps ≤ 8000 := by omega
  clear hsl
  have hfull := Lib.hid (wtext_len ps)
  go_enter Try.func64, Try.ntmps64
  go_wp2_with (first | (go_at_call 62; refine (right_any _ _ _ _ hsw hw hl).mono ?_; rintro e w' ⟨rfl, rfl⟩) | (go_at_call 63; refine (size_any _ _ _ _ hsw hw hl).mono ?_; rintro e w' ⟨rfl, rfl⟩) | (at_make; refine wpList_make_own _ rfl _ _ 61 rfl w.heap.size 5 i0 (.int .u8 0) 1 Try.underlying61 hi hz0 hz1 .i64 .i64 _ (sumW ps) rfl rfl rfl (by rw [hz2]; omega) (by unfold maxLen; omega) (Nat.le_refl _) ?_; intro w1 hown1 hg1; have hB1 : Below w.heap.size w w1 := ⟨hg1.os, hg1.tape, hg1.output, hg1.size, fun k hk => hg1.block k hk (by simp)⟩))
  go_loopw [6, 25] (fun v i wr => ∃ k : Nat, i = .int .i64 k ∧ k ≤ ps.length ∧ wr.ownsRow w.heap.size 5 1 v (wtext (ps.take k)).length (bytesV (wtext (ps.take k))) ∧ Below w.heap.size w wr) (fun _ i _ => ps.length - (intOf i).toNat)
  case atStart => exact ⟨0, rfl, Nat.zero_le _, hown1, hB1⟩
  case round =>
    obtain ⟨k, rfl, hk, hown, hB⟩ := hrel
    have hk0 : (0 : Int) ≤ (k : Int) := by omega
    by_cases hkl : k < ps.length
    · have hk1 : (k : Int) < (ps.length : Int) := by omega
      obtain ⟨bw, ow, rfl, hbw, hcw⟩ := hsw.at (by omega)
      obtain ⟨bn, on, rfl, hbn, hcn⟩ := hsn.at (by omega)
      have cw0 := (hB.cell (p := ⟨bw, ow + k * 1 + 0, none⟩) hbw).trans (hcw k hkl 0 _ rfl)
      have cn0 := (hB.cell (p := ⟨bn, on + k * 1 + 0, none⟩) hbn).trans (hcn k hkl 0 _ rfl)
      rw [Nat.mul_one, Nat.add_zero] at cw0 cn0
      obtain ⟨hm1, hm8⟩ := hw _ (List.getElem_mem hkl)
      have hnf := hf _ (List.getElem_mem hkl)
      have hsnoc := Lib.hid (show wtext (ps.take (k + 1)) = wtext (ps.take k) ++ le ps[k].2 ps[k].1 by rw [List.take_succ_eq_append_getElem hkl, wtext_snoc])
      have hacc : (wtext (ps.take k)).length ≤ 8000 := by
        rw [wtext_len]
        have := sumW_le (hw.take k)
        rw [List.length_take] at this; omega
      clear hcw hcn
      generalize ps[k].1 = m at *
      generalize ps[k].2 = n at *
      generalize wtext (ps.take k) = acc at *
      have hn64 : n < 18446744073709551616 := Nat.lt_of_lt_of_le hnf (pow_le8 hm8)
      have hnf' := Lib.hid hnf
      clear hnf
      have cn0' := cn0
      go_wp2_with fail
      go_loopw [6, 9, 35] (fun v x j wi => ∃ q : Nat, j = .int .i64 q ∧ q ≤ m ∧ x = .int .u64 (n / 256 ^ q : Nat) ∧ wi.ownsRow w.heap.size 5 1 v (acc ++ le n q).length (bytesV (acc ++ le n q)) ∧ Below w.heap.size w wi) (fun _ _ j _ => m - (intOf j).toNat)
      case atStart => exact ⟨0, rfl, Nat.zero_le _, by simp, by rw [le_zero, List.append_nil]; exact hown, hB⟩
      case round =>
        obtain ⟨q, rfl, hq, rfl, hownq, hBq⟩ := hrel
        have hd : n / 256 ^ q < 18446744073709551616 := Nat.lt_of_le_of_lt (Nat.div_le_self _ _) hn64
        have hq0 : (0 : Int) ≤ (q : Int) := by omega
        have hle := le_length n q
        have hlen : (acc ++ le n q).length = acc.length + q := by rw [List.length_append, hle]
        by_cases hqm : q < m
        · have hqm' : (q : Int) < (m : Int) := by omega
          have hls := Lib.hid (le_succ n q)
          have hds := Lib.hid (div_pow_succ n q)
          generalize n / 256 ^ q = x at *
          go_wp2_with (at_builtin; refine wpList_append_own_at _ rfl _ _ 61 rfl w.heap.size 5 i0 (.int .u8 0) 1 1 Try.underlying61 hi hz0 hz1 hz2 rfl (by decide) _ (acc ++ le n q).length _ rfl (hownq.alloc _) ⟨wr.heap.size, 0, none⟩ 1 1 _ rfl rfl (cell_one_new _ _ _) ?h1 (by rw [hlen]; unfold maxLen; omega) (by rw [hlen]; omega) (by have := hBq.size; simp; omega) ?_; (case h1 => (intro u hu; simp at hu; subst hu; rfl)); intro v' w3 hown' hgrow hnil hat)
          go_roundw
          case rel =>
            refine ⟨q + 1, by go_num, by omega, by rw [hds.out]; simp, ?_, below_grown (hBq.alloc hBq.size _) hgrow (fun k e => (hownq.lt k e).1) (by have := hBq.size; simp; omega)⟩
            rw [hls.out, ← List.append_assoc, bytesV_append, List.length_append, List.length_singleton]
            have e : bytesV [UInt8.ofNat (x % 256)] = [.int .u8 ((x : Int) % 256)] := by simp [bytesV]
            rw [e]
            exact hown'
          case measure => first | (simp [intOf]; done) | (simp [intOf]; omega)
        · obtain rfl : q = m := by omega
          have hz : n / 256 ^ q = 0 := Nat.div_eq_of_lt hnf'.out
          generalize n / 256 ^ q = x at *
          subst hz
          go_wp2_with fail
          go_roundw
          case rel => exact ⟨k + 1, by go_num, by omega, by rw [hsnoc.out]; exact hownq, hBq⟩
          case measure => first | (simp [intOf]; done) | (simp [intOf]; omega)
    · obtain rfl : k = ps.length := by omega
      rw [List.take_length] at hown
      have hstr := own_string hown
      clear hown
      go_wp2_with fail
      go_ret2
      exact ⟨rfl, hB⟩

end Go.Proofs.Ythcjcmalfnfjkaa

namespace Go.Proofs.Ythcjcmalfnfjkaa
open Go.RowKit

theorem infoN : (Try.prog.info? 27).map (fun i => (i.zero, i.size, i.bytes)) = some (some (.int .u64 0), 1, 8) := by kernel_rfl
def numsV (ps : List (Nat × Nat)) : List Value := ps.map fun p => .int .u64 p.2
theorem numsV_snoc (l : List (Nat × Nat)) (p : Nat × Nat) : numsV (l ++ [p]) = numsV l ++ [.int .u64 p.2] := by simp [numsV]
theorem numsV_len (l : List (Nat × Nat)) : (numsV l).length = l.length := by simp [numsV]
/-- A row of the call's own reads as numbers. -/
theorem nums_of_own {w : World} {B : Nat} {v : Value} {ps : List (Nat × Nat)} (h : w.ownsRow B 27 1 v ps.length (numsV ps)) : ∃ ao c, v = .slice ao ps.length c ∧ NumsW w ao ps := by
  rcases ownsRow_open h with ⟨rfl, h0, -⟩ | ⟨g, cap, cur, rfl, -, hr, h3, -, h5, h6⟩
  · obtain rfl := List.eq_nil_of_length_eq_zero h0
    exact ⟨none, 0, rfl, Or.inl rfl⟩
  · refine ⟨_, cap, rfl, Or.inr ⟨g, 0, rfl, hr.lt, fun i hi j x hx => ?_⟩⟩
    have hj : j = 0 := by
      have := (List.getElem?_eq_some_iff.1 hx).1
      simpa using this
    subst hj
    have e : (numsV ps)[i]? = some (.int .u64 ps[i].2) := by simp [numsV, hi]
    rw [← h6, List.getElem?_take, if_pos (by omega)] at e
    rw [hr.cell, show 0 + i * 1 + 0 = i by omega, e]
    simpa using hx

theorem pow256 (q : Nat) : 256 ^ q = 2 ^ (8 * q) := by rw [Nat.pow_mul]
theorem or_byte (n q : Nat) (hq : q < 8) : bits .or .u64 ((n % 256 ^ q : Nat) : Int) (IntKind.u64.wrap ((n : Int) / 256 ^ q % 256 * 2 ^ (8 * q))) = ((n % 256 ^ (q + 1) : Nat) : Int) := by
  have e : (n : Int) / 256 ^ q % 256 * 2 ^ (8 * q) = ((n / 256 ^ q % 256 * 2 ^ (8 * q) : Nat) : Int) := by simp
  have h1 : n / 256 ^ q % 256 < 256 := Nat.mod_lt _ (by decide)
  have h2 : 256 * 2 ^ (8 * q) ≤ 18446744073709551616 := by
    rw [← pow256, ← Nat.pow_succ']; exact pow_le8 hq
  have hb : n / 256 ^ q % 256 * 2 ^ (8 * q) < 18446744073709551616 := Nat.lt_of_lt_of_le (Nat.mul_lt_mul_of_pos_right h1 (Nat.two_pow_pos _)) h2
  have ha : n % 256 ^ q < 2 ^ (8 * q) := by rw [← pow256]; exact Nat.mod_lt _ (Nat.pow_pos (by decide))
  have ha' : n % 256 ^ q < 18446744073709551616 := Nat.lt_of_lt_of_le ha (by rw [← pow256]; exact pow_le8 (by omega))
  have hor : n % 256 ^ q ||| n / 256 ^ q % 256 * 2 ^ (8 * q) = n % 256 ^ (q + 1) := by
    rw [Nat.or_comm, Nat.mul_comm, ← Nat.two_pow_add_eq_or_of_lt ha, Nat.pow_succ, Nat.mod_mul, ← pow256, Nat.add_comm]
  rw [e, ← hor]
  generalize n / 256 ^ q % 256 * 2 ^ (8 * q) = y at *
  generalize n % 256 ^ q = x at *
  rw [IntKind.wrap_u64, Int.emod_eq_of_lt (Int.natCast_nonneg _) (by omega), u64_or_nat _ _ ha' hb]

set_option maxRecDepth 100000 in
set_option maxHeartbeats 2000000 in
theorem read_ok (aw : Option Addr) (cw : Nat) (ps : List (Nat × Nat)) (rest : List UInt8) (w : World) (hsw : IntsW w aw ps) (hw : Wide ps) (hf : Fit ps) (hl : ps.length ≤ 1000) (hr : rest.length ≤ 1000000) :
    Calls Try.prog 56 #[.slice aw ps.length cw, .string (S (wtext ps ++ rest))] w fun e w' => (∃ ao c, e = .returned (.tuple #[.slice ao ps.length c, .string (S rest), .bool true]) ∧ NumsW w' ao ps) ∧ Below w.heap.size w w' := by
  obtain ⟨i0, hi, hz0, hz1, hz2⟩ := info_parts infoN
  have hsl := sumW_le hw
  have hsum : sumW ps ≤ 8000 := by omega
  clear hsl
  have hlen : (wtext ps ++ rest).length = sumW ps + rest.length := by rw [List.length_append, wtext_len]
  have hge : ¬ ((sumW ps : Int) + (rest.length : Int) < (sumW ps : Int)) := by omega
  go_enter Try.func56, Try.ntmps56
  go_wp2_with (first | (go_at_call 62; refine (right_any _ _ _ _ hsw hw hl).mono ?_; rintro e w' ⟨rfl, rfl⟩) | (go_at_call 63; refine (size_any _ _ _ _ hsw hw hl).mono ?_; rintro e w' ⟨rfl, rfl⟩))
  clear hlen hge
  go_loopw [1, 7, 24] (fun s v i wr => ∃ k : Nat, i = .int .i64 k ∧ k ≤ ps.length ∧ s = .string (S (wtext (ps.drop k) ++ rest)) ∧ wr.ownsRow w.heap.size 27 1 v (ps.take k).length (numsV (ps.take k)) ∧ Below w.heap.size w wr) (fun _ _ i _ => ps.length - (intOf i).toNat)
  case atStart => exact ⟨0, rfl, Nat.zero_le _, rfl, World.ownsRow_nil _ _ _ _, Below.refl _ _⟩
  case round =>
    obtain ⟨k, rfl, hk, rfl, hown, hB⟩ := hrel
    have hk0 : (0 : Int) ≤ (k : Int) := by omega
    have hlt : (ps.take k).length = k := by rw [List.length_take]; omega
    by_cases hkl : k < ps.length
    · have hk1 : (k : Int) < (ps.length : Int) := by omega
      obtain ⟨bw, ow, rfl, hbw, hcw⟩ := hsw.at (by omega)
      have cw0 := (hB.cell (p := ⟨bw, ow + k * 1 + 0, none⟩) hbw).trans (hcw k hkl 0 _ rfl)
      rw [Nat.mul_one, Nat.add_zero] at cw0
      obtain ⟨hm1, hm8⟩ := hw _ (List.getElem_mem hkl)
      have hnf := hf _ (List.getElem_mem hkl)
      have hsnoc := Lib.hid (show numsV (ps.take (k + 1)) = numsV (ps.take k) ++ [.int .u64 ps[k].2] by rw [List.take_succ_eq_append_getElem hkl, numsV_snoc])
      have hdrop : wtext (ps.drop k) ++ rest = le ps[k].2 ps[k].1 ++ (wtext (ps.drop (k + 1)) ++ rest) := by
        rw [List.drop_eq_getElem_cons hkl, ← List.append_assoc]; rfl
      rw [hdrop]
      have htl : (wtext (ps.drop (k + 1)) ++ rest).length ≤ 1008000 := by
        rw [List.length_append, wtext_len]
        have := sumW_le (l := ps.drop (k + 1)) (fun p hp => hw p (List.mem_of_mem_drop hp))
        rw [List.length_drop] at this; omega
      clear hcw hdrop
      generalize ps[k].1 = m at *
      generalize ps[k].2 = n at *
      generalize htle : wtext (ps.drop (k + 1)) ++ rest = tl at *
      have htle' := Lib.hid htle
      have hn64 : n < 18446744073709551616 := Nat.lt_of_lt_of_le hnf (pow_le8 hm8)
      have hnf' := Lib.hid hnf
      have hle := le_length n m
      clear hnf htle
      have hsz : (le n m ++ tl).length = m + tl.length := by rw [List.length_append, hle]
      go_wp2_with fail
      go_loop [10, 29] (fun x j => ∃ q : Nat, j = .int .i64 q ∧ q ≤ m ∧ x = .int .u64 (n % 256 ^ q : Nat)) (fun _ j => m - (intOf j).toNat)
      case atStart => exact ⟨0, rfl, Nat.zero_le _, by simp [Nat.mod_one]⟩
      case round =>
        obtain ⟨q, rfl, hq, rfl⟩ := hrel
        have hq0 : (0 : Int) ≤ (q : Int) := by omega
        by_cases hqm : q < m
        · have hqm' : (q : Int) < (m : Int) := by omega
          have hq8 : q < 8 := by omega
          have hqs : (q : Int) < (m : Int) + (tl.length : Int) := by omega
          have hxl : n % 256 ^ q < 256 ^ q := Nat.mod_lt _ (Nat.pow_pos (by decide))
          have hbyte : (le n m ++ tl)[q]'(by omega) = UInt8.ofNat (n / 256 ^ q % 256) := by rw [List.getElem_append_left (by omega)]; simp [le]
          have hob := Lib.hid (or_byte n q hq8)
          generalize n % 256 ^ q = x at *
          go_wp2_with fail
          go_round
          case rel => exact ⟨q + 1, by go_num, by omega, by rw [hob.out]⟩
          case measure => first | (simp [intOf]; done) | (simp [intOf]; omega)
        · obtain rfl : q = m := by omega
          have hmod : n % 256 ^ q = n := Nat.mod_eq_of_lt hnf'.out
          rw [hmod]
          have hq1 : (q : Int) ≤ (q : Int) + (tl.length : Int) := by omega
          have hcut : Hid ((le n q ++ tl).drop q = tl) := Lib.hid (by rw [List.drop_append_of_le_length (by omega), List.drop_of_length_le (by omega), List.nil_append])
          clear hmod
          go_wp2_with fail
          rw [hlt] at hown
          obtain ⟨ao', c', e'⟩ := own_form hown
          subst e'
          go_region_law (refine step_append_own rfl _ _ 120 rfl w.heap.size 27 i0 (.int .u64 0) 1 8 Try.underlying120 hi hz0 hz1 hz2 rfl (by decide) (.slice ao' k c') k _ (by simp [Act.eval]) ((hown.alloc (.cells #[.int .u64 n] 27)).drew) ⟨wr.heap.size, 0, none⟩ 1 1 [.int .u64 n] (by simp [Act.eval]) rfl (cell_one_new _ _ _) (by intro u hu; simp at hu; subst hu; rfl) (by unfold maxLen; omega) (by omega) (by have := hB.size; simp; omega) ?_; intro v' w3 hown3 hg3 hat3)
          go_wp2_with fail
          go_roundw
          case rel =>
            refine ⟨k + 1, by go_num, by omega, ?_, ?_, ?_⟩
            · rw [htle'.out]
            · rw [hsnoc.out, List.length_take, Nat.min_eq_left (by omega)]
              exact hown3
            · exact below_grown (below_drew' (hB.alloc hB.size _)) hg3 (fun k e => (hown.lt k e).1) (by have := hB.size; simp; omega)
          case measure => first | (simp [intOf]; done) | (simp [intOf]; omega)
    · obtain rfl : k = ps.length := by omega
      rw [List.take_length] at hown
      obtain ⟨ao, c, rfl, hN⟩ := nums_of_own hown
      rw [List.drop_length]
      clear hown
      go_wp2_with fail
      go_ret3
      exact ⟨⟨ao, c, rfl, hN⟩, hB⟩

set_option maxHeartbeats 1000000 in
theorem read_short (aw : Option Addr) (cw : Nat) (ps : List (Nat × Nat)) (s : List UInt8) (w : World) (hsw : IntsW w aw ps) (hw : Wide ps) (hl : ps.length ≤ 1000) (hs : s.length < sumW ps) :
    Calls Try.prog 56 #[.slice aw ps.length cw, .string (S s)] w fun e w' => e = .returned (.tuple #[.slice none 0 0, .string (S []), .bool false]) ∧ w = w' := by
  have hlt : (s.length : Int) < (sumW ps : Int) := by omega
  go_enter Try.func56, Try.ntmps56
  go_wp2_with (first | (go_at_call 62; refine (right_any _ _ _ _ hsw hw hl).mono ?_; rintro e w' ⟨rfl, rfl⟩) | (go_at_call 63; refine (size_any _ _ _ _ hsw hw hl).mono ?_; rintro e w' ⟨rfl, rfl⟩))
  go_ret3
  exact ⟨rfl, rfl⟩

/-- The number of some bytes, the least significant ones first. -/
def numL : List UInt8 → Nat
  | [] => 0
  | b :: r => b.toNat + 256 * numL r
theorem numL_lt : ∀ l : List UInt8, numL l < 256 ^ l.length
  | [] => by simp [numL]
  | b :: r => by
    have h1 := numL_lt r
    have h2 := b.toNat_lt
    simp only [numL, List.length_cons, Nat.pow_succ]; omega
theorem le_cons (n k : Nat) : le n (k + 1) = UInt8.ofNat (n % 256) :: le (n / 256) k := by
  simp only [le, List.range_succ_eq_map, List.map_cons, List.map_map, Nat.pow_zero, Nat.div_one]
  congr 1
  refine List.map_congr_left fun i _ => ?_
  simp only [Function.comp, Nat.succ_eq_add_one]
  rw [Nat.pow_succ', ← Nat.div_div_eq_div_mul]
theorem le_numL : ∀ l : List UInt8, le (numL l) l.length = l
  | [] => rfl
  | b :: r => by
    have h2 := b.toNat_lt
    have e1 : (b.toNat + 256 * numL r) % 256 = b.toNat := by omega
    have e2 : (b.toNat + 256 * numL r) / 256 = numL r := by omega
    rw [List.length_cons, le_cons, numL, e1, e2, le_numL r]
    simp
theorem numL_le : ∀ (k n : Nat), numL (le n k) = n % 256 ^ k
  | 0, n => by simp [le, numL, Nat.mod_one]
  | k + 1, n => by
    rw [le_cons, numL, numL_le k, Nat.pow_succ', Nat.mod_mul]
    simp
/-- A text with enough bytes is numbers of some widths, and what is left. -/
theorem as_nums : ∀ (ws : List Nat) (s : List UInt8), ws.sum ≤ s.length → ∃ (ps : List (Nat × Nat)) (rest : List UInt8), ps.map Prod.fst = ws ∧ Fit ps ∧ s = wtext ps ++ rest
  | [], s, _ => ⟨[], s, rfl, fun p hp => by simp at hp, rfl⟩
  | m :: ws, s, h => by
    rw [List.sum_cons] at h
    obtain ⟨ps, rest, h1, h2, h3⟩ := as_nums ws (s.drop m) (by rw [List.length_drop]; omega)
    have hl : (s.take m).length = m := by rw [List.length_take]; omega
    refine ⟨(m, numL (s.take m)) :: ps, rest, by simp [h1], fun p hp => ?_, ?_⟩
    · rcases List.mem_cons.1 hp with rfl | hp
      · have := numL_lt (s.take m)
        rwa [hl] at this
      · exact h2 p hp
    · have e := le_numL (s.take m)
      rw [hl] at e
      show s = (le (numL (s.take m)) m ++ wtext ps) ++ rest
      rw [e, List.append_assoc, ← h3, List.take_append_drop]
theorem intsW_new (w : World) (c : Array Value) (e : TypeId) (fz : Nat × Nat) (ps : List (Nat × Nat)) (hc : c.toList = ps.map fun p => .int .i64 p.1) : IntsW (w.alloc (.cells c e fz)) (some ⟨w.heap.size, 0, none⟩) ps :=
  SlAt.new w c e fz ps (fun _ _ => rfl) (by rw [hc, List.map_eq_flatMap])
theorem numsW_new (w : World) (c : Array Value) (e : TypeId) (fz : Nat × Nat) (ps : List (Nat × Nat)) (hc : c.toList = ps.map fun p => .int .u64 p.2) : NumsW (w.alloc (.cells c e fz)) (some ⟨w.heap.size, 0, none⟩) ps :=
  SlAt.new w c e fz ps (fun _ _ => rfl) (by rw [hc, List.map_eq_flatMap])

theorem wide1 (m n : Nat) (h1 : 1 ≤ m) (h2 : m ≤ 8) : Wide [(m, n)] := by
  intro p hp
  simp only [List.mem_singleton] at hp
  subst hp
  exact ⟨h1, h2⟩
theorem as_num1 (m : Nat) (s : List UInt8) (h : m ≤ s.length) : ∃ (n : Nat) (rest : List UInt8), Fit [(m, n)] ∧ s = wtext [(m, n)] ++ rest := by
  have hl : (s.take m).length = m := by rw [List.length_take]; omega
  refine ⟨numL (s.take m), s.drop m, fun p hp => ?_, ?_⟩
  · simp only [List.mem_singleton] at hp
    subst hp
    have := numL_lt (s.take m)
    rwa [hl] at this
  · have e := le_numL (s.take m)
    rw [hl] at e
    simp only [wtext, List.flatMap_cons, List.flatMap_nil, List.append_nil]
    rw [e, List.take_append_drop]

end Go.Proofs.Ythcjcmalfnfjkaa

namespace Go.Proofs.Ythcjcmalfnfjkaa
open Go.RowKit

/-- What an update makes of a value that is there, or isn't. -/
def onL (v : List UInt8) (there : Bool) (u : Upd) : List UInt8 × Bool :=
  if u.kind = 1 then (u.val, true)
  else if u.kind = 2 then ([], false)
  else if u.kind = 3 then
    if there = false then (le (u.delta % 18446744073709551616) 8, true)
    else if v.length = 8 then (le ((numL v + u.delta) % 18446744073709551616) 8, true) else (v, true)
  else (if there then v else [], there)
def onV (v : List UInt8) (there : Bool) (u : Upd) : Value := .tuple #[.string (S (onL v there u).1), .bool (onL v there u).2]
/-- The update that does what two do, one behind the other. -/
def joinL (f t : Upd) : Upd :=
  if t.kind ≠ 3 then t
  else if f.kind = 3 then { t with delta := (t.delta + f.delta) % 18446744073709551616 }
  else ⟨1, t.key, (onL (onL [] false f).1 (onL [] false f).2 t).1, 0⟩

theorem numL_64 {v : List UInt8} (h : v.length = 8) : numL v < 18446744073709551616 := by
  have := numL_lt v
  rw [h] at this
  exact this

set_option maxRecDepth 100000 in
set_option maxHeartbeats 1000000 in
theorem number_any (v : List UInt8) (hv : v.length ≤ 1000000) (w : World) :
    Calls Try.prog 47 #[.string (S v)] w fun e w' => e = .returned (.tuple #[.int .u64 (if v.length = 8 then numL v else 0 : Nat), .bool (decide (v.length = 8))]) ∧ Below w.heap.size w w' := by
  by_cases hlt : v.length < 8
  · have hd : decide (v.length = 8) = false := by simp; omega
    rw [if_neg (by omega), hd]
    clear hd
    have hI := intsW_new w #[.int .i64 8] 3 (0, 0) [(8, 0)] rfl
    have hr := read_short _ 1 [(8, 0)] v _ hI (wide1 8 0 (by omega) (by omega)) (by simp) (by simpa [sumW] using hlt)
    go_enter Try.func47, Try.ntmps47
    go_wp2_with (go_at_call 56; refine (hr).mono ?_; rintro e w' ⟨rfl, rfl⟩)
    go_ret2
    exact ⟨rfl, by go_grown⟩
  · obtain ⟨n, rest, h2, h3⟩ := as_num1 8 v (by omega)
    have hn : n < 256 ^ 8 := h2 (8, n) (by simp)
    have hn8 : n < 18446744073709551616 := hn
    have hlen : v.length = 8 + rest.length := by rw [h3, List.length_append, wtext_len]; rfl
    have hI := intsW_new w #[.int .i64 8] 3 (0, 0) [(8, n)] rfl
    have hr := read_ok _ 1 [(8, n)] rest _ hI (wide1 8 n (by omega) (by omega)) h2 (by simp) (by omega)
    rw [← h3] at hr
    by_cases h8 : v.length = 8
    · obtain rfl : rest = [] := List.eq_nil_of_length_eq_zero (by omega)
      have hnum : numL v = n := by
        rw [h3, List.append_nil]
        show numL (le n 8 ++ []) = n
        rw [List.append_nil, numL_le]
        exact Nat.mod_eq_of_lt hn
      rw [if_pos h8, decide_eq_true h8, hnum]
      clear hnum h8 hlen h3 h2
      go_enter Try.func47, Try.ntmps47
      go_wp2_with (go_at_call 56; refine (thread hr w.heap.size w (by go_grown) (by go_grown)).mono ?_; rintro e w1 ⟨⟨ao, c, rfl, hN⟩, hB, -, -, -, -⟩; obtain ⟨b, off, rfl, hb, hc⟩ := hN.at (by simp); have hc0 := hc 0 (by simp) 0 _ rfl; simp only [Nat.mul_one, Nat.add_zero, List.getElem_cons_zero] at hc0; clear hc hN)
      go_ret2
      exact ⟨rfl, hB⟩
    · have hne : 0 < rest.length := by omega
      rw [if_neg h8, decide_eq_false h8]
      have hre : (S rest).toList.isEmpty = false := by rw [S_toList]; cases rest <;> simp at hne ⊢
      have hre2 : rest.isEmpty = false := by rw [S_toList] at hre; exact hre
      clear h8 hlen h3 h2
      go_enter Try.func47, Try.ntmps47
      go_wp2_with (go_at_call 56; refine (thread hr w.heap.size w (by go_grown) (by go_grown)).mono ?_; rintro e w1 ⟨⟨ao, c, rfl, hN⟩, hB, -, -, -, -⟩)
      go_ret2
      exact ⟨rfl, hB⟩

set_option maxRecDepth 100000 in
set_option maxHeartbeats 400000 in
theorem value_any (n : Nat) (hn : n < 18446744073709551616) (w : World) :
    Calls Try.prog 57 #[.int .u64 n] w fun e w' => e = .returned (.string (S (le n 8))) ∧ Below w.heap.size w w' := by
  have hI := (intsW_new w #[.int .i64 8] 3 (0, 0) [(8, n)] rfl).kept ((Below.refl _ _).alloc (Nat.le_refl _) (.cells #[.int .u64 n] 27)) (Nat.le_refl _)
  have hN := numsW_new (w.alloc (.cells #[.int .i64 8] 3)) #[.int .u64 n] 27 (0, 0) [(8, n)] rfl
  have hr := write_fit _ _ 1 1 [(8, n)] _ hI hN (wide1 8 n (by omega) (by omega)) (by intro p hp; simp at hp; subst hp; exact hn) (by simp)
  have hw : Hid (wtext [(8, n)] = le n 8) := Lib.hid (by simp [wtext])
  rw [show (w.alloc (.cells #[.int .i64 8] 3)).heap.size = w.heap.size + 1 by simp] at hr
  go_enter Try.func57, Try.ntmps57
  go_wp2_with (go_at_call 64; refine (thread hr w.heap.size w (by go_grown) (by go_grown)).mono ?_; rintro e w1 ⟨rfl, hB, -, -, -, -⟩)
  go_ret
  exact ⟨ret_val (by rw [← hw.out]; rfl), hB⟩

end Go.Proofs.Ythcjcmalfnfjkaa

namespace Go.Proofs.Ythcjcmalfnfjkaa
open Go.RowKit

theorem onL_add0 (v : List UInt8) (u : Upd) (h : u.kind = 3) : onL v false u = (le (u.delta % 18446744073709551616) 8, true) := by
  unfold onL; rw [if_neg (by omega), if_neg (by omega), if_pos h, if_pos rfl]
theorem onL_add8 (v : List UInt8) (u : Upd) (h : u.kind = 3) (h8 : v.length = 8) : onL v true u = (le ((numL v + u.delta) % 18446744073709551616) 8, true) := by
  unfold onL; rw [if_neg (by omega), if_neg (by omega), if_pos h, if_neg (by simp), if_pos h8]
theorem onL_add (v : List UInt8) (u : Upd) (h : u.kind = 3) (h8 : ¬ v.length = 8) : onL v true u = (v, true) := by
  unfold onL; rw [if_neg (by omega), if_neg (by omega), if_pos h, if_neg (by simp), if_neg h8]
theorem onL_other (v : List UInt8) (there : Bool) (u : Upd) (h1 : ¬ u.kind = 1) (h2 : ¬ u.kind = 2) (h3 : ¬ u.kind = 3) : onL v there u = (if there then v else [], there) := by
  unfold onL; rw [if_neg h1, if_neg h2, if_neg h3]
theorem onL_put (v : List UInt8) (there : Bool) (u : Upd) (h : u.kind = 1) : onL v there u = (u.val, true) := by
  unfold onL; rw [if_pos h]
theorem onL_del (v : List UInt8) (there : Bool) (u : Upd) (h : u.kind = 2) : onL v there u = ([], false) := by
  unfold onL; rw [if_neg (by omega), if_pos h]
theorem onL_len (v : List UInt8) (there : Bool) (u : Upd) (n : Nat) (h : v.length ≤ n) (hu : u.val.length ≤ n) (h8 : 8 ≤ n) : (onL v there u).1.length ≤ n := by
  unfold onL
  repeat' split
  all_goals first | exact hu | exact h | (simp; done) | (simp; omega)

theorem u64_sum (a b : Nat) : IntKind.u64.wrap ((a : Int) + (b : Int)) = (((a + b) % 18446744073709551616 : Nat) : Int) := by
  rw [IntKind.wrap_u64]; omega
theorem mod64_lt (n : Nat) : n % 18446744073709551616 < 18446744073709551616 := Nat.mod_lt _ (by decide)

set_option maxRecDepth 100000 in
set_option maxHeartbeats 2000000 in
theorem on_any (v : List UInt8) (there : Bool) (kd : Nat) (key val : List UInt8) (dl : Nat) (hv : v.length ≤ 1000000) (hk : kd < 256) (hd : dl < 18446744073709551616) (w : World) :
    Calls Try.prog 48 #[.string (S v), .bool there, .agg #[.int .u8 kd, .string (S key), .string (S val), .int .u64 dl]] w fun e w' => e = .returned (onV v there ⟨kd, key, val, dl⟩) ∧ Below w.heap.size w w' := by
  have hkd : (kd : Int) < 256 := by omega
  have hdl : (dl : Int) < 18446744073709551616 := by omega
  by_cases h1 : kd = 1
  · subst h1
    have hV : Hid (onV v there ⟨1, key, val, dl⟩ = .tuple #[.string (S val), .bool true]) := Lib.hid (by rw [onV, onL_put _ _ _ rfl])
    cases there
    all_goals
      go_enter Try.func48, Try.ntmps48
      go_wp2_with fail
      go_ret2
      exact ⟨ret_val (by rw [hV.out]; rfl), by go_grown⟩
  · by_cases h2 : kd = 2
    · subst h2
      have hV : Hid (onV v there ⟨2, key, val, dl⟩ = .tuple #[.string (S []), .bool false]) := Lib.hid (by rw [onV, onL_del _ _ _ rfl])
      clear h1
      cases there
      all_goals
        go_enter Try.func48, Try.ntmps48
        go_wp2_with fail
        go_ret2
        exact ⟨ret_val (by rw [hV.out]; rfl), by go_grown⟩
    · by_cases h3 : kd = 3
      · subst h3
        clear h1 h2
        cases there with
        | false =>
          have hV : Hid (onV v false ⟨3, key, val, dl⟩ = .tuple #[.string (S (le dl 8)), .bool true]) := Lib.hid (by rw [onV, onL_add0 _ _ rfl, Nat.mod_eq_of_lt hd])
          go_enter Try.func48, Try.ntmps48
          go_wp2_with (first | (go_at_call 47; refine (thread (number_any [] (by simp) _) w.heap.size w (by go_grown) (by go_grown)).mono ?_; rintro e w1 ⟨rfl, hB, hc1, -, hs1, hz1⟩; have d3 := (hc1 w.heap.size 3 (by simp)).trans (by simp; rfl); clear hc1) | (go_at_call 57; refine (thread (value_any dl hd _) w.heap.size w (by go_grown) (by go_grown)).mono ?_; rintro e w2 ⟨rfl, hB2, -, -, -, -⟩))
          go_ret2
          exact ⟨ret_val (by rw [hV.out]; rfl), hB2⟩
        | true =>
          by_cases h8 : v.length = 8
          · have hn := numL_64 h8
            have hV : Hid (onV v true ⟨3, key, val, dl⟩ = .tuple #[.string (S (le ((numL v + dl) % 18446744073709551616) 8)), .bool true]) := Lib.hid (by rw [onV, onL_add8 _ _ rfl h8])
            have hnum := fun w => number_any v hv w
            simp only [h8, if_true, decide_true] at hnum
            have hnum' := Lib.hid hnum
            clear hnum h8
            generalize numL v = n at *
            go_enter Try.func48, Try.ntmps48
            go_wp2_with (first | (go_at_call 47; refine (thread (hnum'.out _) w.heap.size w (by go_grown) (by go_grown)).mono ?_; rintro e w1 ⟨rfl, hB, hc1, -, hs1, hz1⟩; have d3 := (hc1 w.heap.size 3 (by simp)).trans (by simp; rfl); clear hc1) | (go_at_call 57; rw [u64_sum]; refine (thread (value_any _ (mod64_lt _) _) w.heap.size w (by go_grown) (by go_grown)).mono ?_; rintro e w2 ⟨rfl, hB2, -, -, -, -⟩))
            go_ret2
            exact ⟨ret_val (by rw [hV.out]; rfl), hB2⟩
          · have hV : Hid (onV v true ⟨3, key, val, dl⟩ = .tuple #[.string (S v), .bool true]) := Lib.hid (by rw [onV, onL_add _ _ rfl h8])
            have hnum := fun w => number_any v hv w
            simp only [h8, if_false, decide_false] at hnum
            have hnum' := Lib.hid hnum
            clear hnum h8
            go_enter Try.func48, Try.ntmps48
            go_wp2_with (first | (go_at_call 47; refine (thread (hnum'.out _) w.heap.size w (by go_grown) (by go_grown)).mono ?_; rintro e w1 ⟨rfl, hB, hc1, -, hs1, hz1⟩; clear hc1))
            go_ret2
            exact ⟨ret_val (by rw [hV.out]; rfl), hB⟩
      · have hV : Hid (onV v there ⟨kd, key, val, dl⟩ = .tuple #[.string (S (if there then v else [])), .bool there]) := Lib.hid (by rw [onV, onL_other _ _ _ h1 h2 h3])
        have e1 : ((kd : Int) == 1) = false := by rw [beq_eq_false_iff_ne]; omega
        have e2 : ((kd : Int) == 2) = false := by rw [beq_eq_false_iff_ne]; omega
        have e3 : ((kd : Int) == 3) = false := by rw [beq_eq_false_iff_ne]; omega
        clear h1 h2 h3
        cases there
        all_goals
          go_enter Try.func48, Try.ntmps48
          go_wp2_with fail
          go_ret2
          exact ⟨ret_val (by rw [hV.out]; rfl), by go_grown⟩

theorem joinL_not (f t : Upd) (h : ¬ t.kind = 3) : joinL f t = t := by unfold joinL; rw [if_pos h]
theorem joinL_add (f t : Upd) (h : t.kind = 3) (k : f.kind = 3) : joinL f t = ⟨3, t.key, t.val, (t.delta + f.delta) % 18446744073709551616⟩ := by
  unfold joinL; rw [if_neg (by simp [h]), if_pos k]
  obtain ⟨a, b, c, d⟩ := t
  simp only at h; subst h; rfl
theorem joinL_put (f t : Upd) (h : t.kind = 3) (k : ¬ f.kind = 3) : joinL f t = ⟨1, t.key, (onL (onL [] false f).1 (onL [] false f).2 t).1, 0⟩ := by
  unfold joinL; rw [if_neg (by simp [h]), if_neg k]
/-- An update as a value. -/
def updV (u : Upd) : Value := .agg #[.int .u8 u.kind, .string (S u.key), .string (S u.val), .int .u64 u.delta]

end Go.Proofs.Ythcjcmalfnfjkaa

namespace Go.Proofs.Ythcjcmalfnfjkaa
open Go.RowKit

set_option maxHeartbeats 400000 in
theorem put_any (n : Nat) (hn : n < 18446744073709551616) (k : Nat) (h1 : 1 ≤ k) (h8 : k ≤ 8) (w : World) :
    Calls Try.prog 55 #[.int .u64 n, .int .i64 k] w fun e w' => e = .returned (.tuple #[.string (S (le n k)), .bool (decide (n / 256 ^ k = 0))]) ∧ Below w.heap.size w w' := by
  have hcv := fun w n c => run_str1 (P := Try.prog) 61 9 5 Try.underlying61 Try.underlying5 Try.underlying9 w n c
  go_enter Try.func55, Try.ntmps55
  go_wp2
  go_loopw [0, 6, 7] (fun x s i wr => ∃ j : Nat, j ≤ k ∧ x = .int .u64 (n / 256 ^ j : Nat) ∧ s = .string (S (le n j)) ∧ i = .int .i64 j ∧ Below w.heap.size w wr) (fun _ _ i _ => k - (intOf i).toNat)
  case atStart => exact ⟨0, Nat.zero_le _, by simp, rfl, rfl, by go_grown⟩
  case round =>
    obtain ⟨j, hj, rfl, rfl, rfl, hB⟩ := hrel
    have hz := hB.size
    have hd : n / 256 ^ j < 18446744073709551616 := Nat.lt_of_le_of_lt (Nat.div_le_self _ _) hn
    generalize hm : n / 256 ^ j = m at hd ⊢
    have Hm := Lib.hid hm
    clear hm hn
    have hl : (le n j).length = j := le_length n j
    go_wp2
    · go_roundw
      case rel => exact ⟨j + 1, by omega, by rw [div_pow_succ, Hm.out]; simp, by rw [le_succ, Hm.out], by go_num, by go_grown⟩
      case measure => simp [intOf]; omega
    · obtain rfl : j = k := by omega
      go_ret2
      exact ⟨ret_val (by rw [Hm.out, ← beq_zero]; rfl), by go_grown⟩

end Go.Proofs.Ythcjcmalfnfjkaa

namespace Go.Proofs.Ythcjcmalfnfjkaa
open Go.RowKit

set_option maxHeartbeats 1000000 in
theorem refGet_any (v : List UInt8) (hv : v.length ≤ 8) (w : World) :
    Calls Try.prog 54 #[.string (S v)] w fun e w' => e = .returned (.int .u64 (numL v : Nat)) ∧ Below w.heap.size w w' := by
  have hw0 : IntKind.i64.wrap ((v.length : Int) - 1) = (v.length : Int) - 1 := IntWalk.i64_in _ (by omega)
  go_enter Try.func54, Try.ntmps54
  go_wp2_with fail
  go_loopw [3, 4] (fun n i wr => ∃ j : Nat, j ≤ v.length ∧ i = .int .i64 ((j : Int) - 1) ∧ n = .int .u64 (numL (v.drop j) : Nat) ∧ Below w.heap.size w wr) (fun _ i _ => (intOf i + 1).toNat)
  case atStart => exact ⟨v.length, Nat.le_refl _, rfl, by rw [List.drop_length]; rfl, Below.refl _ _⟩
  case round =>
    obtain ⟨j, hj, rfl, rfl, hB⟩ := hrel
    rcases j with _ | q
    · rw [show ((0 : Nat) : Int) - 1 = -1 from rfl]
      go_wp2_with fail
      go_ret
      exact ⟨rfl, hB⟩
    · rw [show ((q + 1 : Nat) : Int) - 1 = (q : Int) by omega]
      have hq : q < v.length := by omega
      have hq0 : (0 : Int) ≤ (q : Int) := by omega
      have hq1 : (q : Int) < (v.length : Int) := by omega
      have hqw : IntKind.i64.wrap ((q : Int) - 1) = (q : Int) - 1 := IntWalk.i64_in _ (by omega)
      have hd : numL (v.drop q) = v[q].toNat + 256 * numL (v.drop (q + 1)) := by rw [List.drop_eq_getElem_cons hq]; rfl
      have hb : numL (v.drop q) < 18446744073709551616 := by
        have h1 := numL_lt (v.drop q)
        rw [List.length_drop] at h1
        have h2 : 256 ^ (v.length - q) ≤ 256 ^ 8 := Nat.pow_le_pow_right (by decide) (by omega)
        have h3 : (256 : Nat) ^ 8 = 18446744073709551616 := by decide
        omega
      have Hd := Lib.hid hd
      have Hb := Lib.hid hb
      clear hd hb
      go_wp2_with fail
      refine ⟨⟨q, by omega, rfl, ?_, hB⟩, by simp [intOf]⟩
      rw [Hd.out]
      have h1 := Hd.out
      have h2 := Hb.out
      generalize numL (v.drop (q + 1)) = N at *
      generalize v[q].toNat = b at *
      congr 1
      simp only [IntKind.wrap_u64]
      omega
theorem refOn_len (v : List UInt8) (there : Bool) : (if there then v else []).length ≤ v.length := by cases there <;> simp
set_option maxRecDepth 100000 in
set_option maxHeartbeats 2000000 in
theorem refOn_any (v : List UInt8) (there : Bool) (kd : Nat) (key val : List UInt8) (dl : Nat) (hk : kd < 256) (hd : dl < 18446744073709551616) (w : World) :
    Calls Try.prog 45 #[.string (S v), .bool there, .agg #[.int .u8 kd, .string (S key), .string (S val), .int .u64 dl]] w fun e w' => e = .returned (onV v there ⟨kd, key, val, dl⟩) ∧ Below w.heap.size w w' := by
  have hkd : (kd : Int) < 256 := by omega
  by_cases h1 : kd = 1
  · subst h1
    unfold onV
    rw [onL_put _ _ _ rfl]
    go_enter Try.func45, Try.ntmps45
    go_wp2_with fail
    go_ret2
    exact ⟨rfl, by go_grown⟩
  by_cases h2 : kd = 2
  · subst h2
    unfold onV
    rw [onL_del _ _ _ rfl]
    go_enter Try.func45, Try.ntmps45
    go_wp2_with fail
    go_ret2
    exact ⟨rfl, by go_grown⟩
  have g1 : ¬ (kd : Int) = 1 := by omega
  have g2 : ¬ (kd : Int) = 2 := by omega
  have b1 : ((kd : Int) == 1) = false := by simpa using g1
  have b2 : ((kd : Int) == 2) = false := by simpa using g2
  by_cases h3 : kd = 3
  · subst h3
    clear b1 b2 g1 g2
    cases there with
    | false =>
      have hdm : dl % 18446744073709551616 = dl := Nat.mod_eq_of_lt hd
      have hput := fun w => put_any dl hd 8 (by decide) (by decide) w
      unfold onV
      rw [onL_add0 _ _ rfl]
      simp only [hdm]
      have hg : ∀ w, Calls Try.prog 54 #[.string ⟨#[]⟩] w fun e w' => e = .returned (.int .u64 0) ∧ Below w.heap.size w w' := fun w => refGet_any [] (by decide) w
      have hwd : IntKind.u64.wrap (dl : Int) = (dl : Int) := by rw [IntKind.wrap_u64]; omega
      clear hdm
      go_enter Try.func45, Try.ntmps45
      go_wp2_with fail
      refine (thread (hg _) w.heap.size w (by go_grown) (by go_grown)).mono ?_
      rintro e w1 ⟨rfl, hB1, hk1, -, -, hz1⟩
      have p3 := (hk1 w.heap.size 3 (by simp)).trans (by simp [go_sem]; rfl)
      clear hk1 hg
      go_wp2_with fail
      refine (thread (hput _) w.heap.size w (by go_grown) (by go_grown)).mono ?_
      rintro e w2 ⟨rfl, hB2, -, -, -, -⟩
      go_wp2_with fail
      go_ret2
      exact ⟨rfl, hB2⟩
    | true =>
      by_cases h8 : v.length = 8
      · have hsum := u64_sum (numL v) dl
        unfold onV
        rw [onL_add8 _ _ rfl h8]
        have hput := fun w => put_any ((numL v + dl) % 18446744073709551616) (mod64_lt _) 8 (by decide) (by decide) w
        have hg := fun w => refGet_any v (by omega) w
        have h8' : (v.length : Int) = 8 := by omega
        have h8n : ((v.length : Int) != 8) = false := by simp [h8']
        generalize (numL v + dl) % 18446744073709551616 = N at *
        generalize numL v = M at *
        clear h8'
        go_enter Try.func45, Try.ntmps45
        go_wp2_with fail
        refine (thread (hg _) w.heap.size w (by go_grown) (by go_grown)).mono ?_
        rintro e w1 ⟨rfl, hB1, hk1, -, -, hz1⟩
        have p3 := (hk1 w.heap.size 3 (by simp)).trans (by simp [go_sem]; rfl)
        clear hk1 hg
        go_wp2_with fail
        refine (thread (hput _) w.heap.size w (by go_grown) (by go_grown)).mono ?_
        rintro e w2 ⟨rfl, hB2, -, -, -, -⟩
        go_wp2_with fail
        go_ret2
        exact ⟨rfl, hB2⟩
      · unfold onV
        rw [onL_add _ _ rfl h8]
        have h8n : ((v.length : Int) != 8) = true := by simp; omega
        go_enter Try.func45, Try.ntmps45
        go_wp2_with fail
        go_ret2
        exact ⟨rfl, by go_grown⟩
  · have g3 : ¬ (kd : Int) = 3 := by omega
    have b3 : ((kd : Int) == 3) = false := by simpa using g3
    have b3' : ((kd : Int) != 3) = true := by simpa using g3
    unfold onV
    rw [onL_other _ _ _ h1 h2 h3]
    cases there with
    | false =>
      go_enter Try.func45, Try.ntmps45
      go_wp2_with fail
      go_ret2
      exact ⟨rfl, by go_grown⟩
    | true =>
      go_enter Try.func45, Try.ntmps45
      go_wp2_with fail
      go_ret2
      exact ⟨rfl, by go_grown⟩

end Go.Proofs.Ythcjcmalfnfjkaa

namespace Go.Proofs.Ythcjcmalfnfjkaa
open Go.RowKit

/-- What is in the row behind it. -/
def insE (l : List Ent) (i : Nat) (x : Ent) : List Ent := l.take i ++ x :: l.drop i

end Go.Proofs.Ythcjcmalfnfjkaa

namespace Go.Proofs.Ythcjcmalfnfjkaa
open Go.RowKit

section
variable {P : Program} (w : World)
end
/-- One left out. -/
def delE (l : List Ent) (i : Nat) : List Ent := l.take i ++ l.drop (i + 1)
end Go.Proofs.Ythcjcmalfnfjkaa

namespace Go.Proofs.Ythcjcmalfnfjkaa
open Go.RowKit

theorem check_big (u : Upd) (h : u.key.length < 1 ∨ 16 < u.key.length ∨ 32 < u.val.length) : (13 : Int) = (u.check : Nat) := by rw [Upd.check, if_pos h]; rfl
theorem check_arg (u : Upd) (h : ¬ (u.key.length < 1 ∨ 16 < u.key.length ∨ 32 < u.val.length)) (k : u.kind < 1 ∨ 3 < u.kind ∨ (u.kind ≠ 1 ∧ u.val ≠ []) ∨ (u.kind ≠ 3 ∧ u.delta ≠ 0)) : (2 : Int) = (u.check : Nat) := by
  rw [Upd.check, if_neg h, if_pos k]; rfl
theorem check_fine (u : Upd) (h : ¬ (u.key.length < 1 ∨ 16 < u.key.length ∨ 32 < u.val.length)) (k : ¬ (u.kind < 1 ∨ 3 < u.kind ∨ (u.kind ≠ 1 ∧ u.val ≠ []) ∨ (u.kind ≠ 3 ∧ u.delta ≠ 0))) : (0 : Int) = (u.check : Nat) := by
  rw [Upd.check, if_neg h, if_neg k]; rfl

set_option maxHeartbeats 400000 in
theorem refCheck_any (u : Upd) (hu : u.Wf) (w : World) :
    Calls Try.prog 44 #[.agg #[.int .u8 u.kind, .string (S u.key), .string (S u.val), .int .u64 u.delta]] w fun e w' => e = .returned (.int .i64 u.check) ∧ Below w.heap.size w w' := by
  obtain ⟨hk, hd⟩ := hu
  by_cases h : u.key.length < 1 ∨ 16 < u.key.length ∨ 32 < u.val.length
  · have H := Lib.hid h
    clear h
    go_enter Try.func44, Try.ntmps44
    go_wp2
    all_goals first
      | (go_ret; exact ⟨ret_int (check_big u H.out), by go_grown⟩)
      | (exfalso; have := H.out; omega)
  · obtain ⟨h1, h2, h3⟩ : 1 ≤ u.key.length ∧ u.key.length ≤ 16 ∧ u.val.length ≤ 32 := by omega
    have H := Lib.hid h
    clear h
    go_enter Try.func44, Try.ntmps44
    go_wp2
    all_goals (go_ret; refine ⟨ret_int ?_, by go_grown⟩; go_light; (try simp only [bne_iff_ne, bne_eq_false_iff_eq, ne_eq] at *); by_cases hv : u.val = [])
    all_goals first
      | contradiction
      | exact check_fine u H.out (by simp [hv]; omega)
      | exact check_arg u H.out (by simp [hv]; omega)

theorem refCheck (kd : Nat) (key val : List UInt8) (dl : Nat) (hk : kd < 256) (hd : dl < 18446744073709551616) (w : World) :
    Calls Try.prog 44 #[.agg #[.int .u8 kd, .string (S key), .string (S val), .int .u64 dl]] w fun e w' => e = .returned (.int .i64 (Upd.mk kd key val dl).check) ∧ Below w.heap.size w w' :=
  refCheck_any ⟨kd, key, val, dl⟩ ⟨hk, hd⟩ w

end Go.Proofs.Ythcjcmalfnfjkaa

namespace Go.Proofs.Ythcjcmalfnfjkaa
open Go.RowKit

set_option maxRecDepth 100000 in
set_option maxHeartbeats 2000000 in
theorem chk_big (u : Upd) (h : u.key.length < 1 ∨ 16 < u.key.length ∨ 32 < u.val.length) (w : World) :
    Calls Try.prog 46 #[.agg #[.int .u8 u.kind, .string (S u.key), .string (S u.val), .int .u64 u.delta]] w fun e w' => e = .returned (.int .i64 u.check) ∧ Below w.heap.size w w' := by
  have H := Lib.hid (check_big u h)
  by_cases h0 : u.key = []
  · have he : u.key.isEmpty = true := by rw [h0]; rfl
    clear h
    go_enter Try.func46, Try.ntmps46
    go_wp2
    all_goals (go_ret; exact ⟨ret_int H.out, by go_grown⟩)
  · have he : u.key.isEmpty = false := by cases hk : u.key <;> simp [hk] at h0 ⊢
    by_cases h1 : 16 < u.key.length
    · clear h
      go_enter Try.func46, Try.ntmps46
      go_wp2
      all_goals (go_ret; exact ⟨ret_int H.out, by go_grown⟩)
    · have h2 : 32 < u.val.length := by
        rcases h with h | h | h
        · exact absurd (List.eq_nil_of_length_eq_zero (by omega)) h0
        · exact absurd h h1
        · exact h
      clear h
      go_enter Try.func46, Try.ntmps46
      go_wp2
      all_goals (go_ret; exact ⟨ret_int H.out, by go_grown⟩)

set_option maxRecDepth 100000 in
set_option maxHeartbeats 2000000 in
theorem chk_fits (u : Upd) (h : ¬ (u.key.length < 1 ∨ 16 < u.key.length ∨ 32 < u.val.length)) (hu : u.Wf) (w : World) :
    Calls Try.prog 46 #[.agg #[.int .u8 u.kind, .string (S u.key), .string (S u.val), .int .u64 u.delta]] w fun e w' => e = .returned (.int .i64 u.check) ∧ Below w.heap.size w w' := by
  obtain ⟨hk, hd⟩ := hu
  obtain ⟨h1, h2, h3⟩ : 1 ≤ u.key.length ∧ u.key.length ≤ 16 ∧ u.val.length ≤ 32 := by omega
  have he : u.key.isEmpty = false := by cases hk : u.key <;> simp [hk] at h1 ⊢
  have H := Lib.hid h
  clear h
  go_enter Try.func46, Try.ntmps46
  go_wp2
  all_goals (go_ret; refine ⟨ret_int ?_, by go_grown⟩; go_light; (try simp only [bne_iff_ne, bne_eq_false_iff_eq, ne_eq] at *); by_cases hv : u.val = [])
  all_goals first
    | contradiction
    | exact check_fine u H.out (by simp [hv]; omega)
    | exact check_arg u H.out (by simp [hv]; omega)

theorem chk (kd : Nat) (key val : List UInt8) (dl : Nat) (hk : kd < 256) (hd : dl < 18446744073709551616) (w : World) :
    Calls Try.prog 46 #[.agg #[.int .u8 kd, .string (S key), .string (S val), .int .u64 dl]] w fun e w' => e = .returned (.int .i64 (Upd.mk kd key val dl).check) ∧ Below w.heap.size w w' := by
  by_cases h : key.length < 1 ∨ 16 < key.length ∨ 32 < val.length
  · exact chk_big ⟨kd, key, val, dl⟩ h w
  · exact chk_fits ⟨kd, key, val, dl⟩ h ⟨hk, hd⟩ w

end Go.Proofs.Ythcjcmalfnfjkaa
