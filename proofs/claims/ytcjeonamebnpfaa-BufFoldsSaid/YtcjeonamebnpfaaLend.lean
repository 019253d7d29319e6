/-
  The walks of layer 1 (lend): widths, numbers as bytes.
-/
import Derived.Test.YtcjeonamebnpfaaRow
import Derived.Lib.Walk
namespace Go.Proofs.Ytcjeonamebnpfaa
open Go.RowKit

theorem infoB : (Try.prog.info? 5).map (fun i => (i.zero, i.size, i.bytes)) = some (some (.int .u8 0), 1, 1) := by kernel_rfl
/-- Bytes, as cells. -/
def bytesV (l : List UInt8) : List Value := l.map fun b => .int .u8 b.toNat
theorem bytesV_len (l : List UInt8) : (bytesV l).length = l.length := by simp [bytesV]
theorem bytesV_append (a b : List UInt8) : bytesV (a ++ b) = bytesV a ++ bytesV b := by simp [bytesV]
theorem nil_string (w : World) : (convert 47 9 (.slice none 0 0)).run Try.prog w = .ok (.string (S [])) w := by kernel_rfl
theorem map_back (l : List UInt8) : (l.map fun b => (b.toNat : Int)).map (fun n : Int => UInt8.ofNat n.toNat) = l := by
  rw [List.map_map]
  conv => rhs; rw [← List.map_id l]
  exact List.map_congr_left fun b _ => by simp
/-- 'string(b)', b a row of the call's own. -/
theorem own_string {B n : Nat} {v : Value} {l : List UInt8} {w : World} (h : w.ownsRow B 5 1 v n (bytesV l)) : (convert 47 9 v).run Try.prog w = .ok (.string (S l)) w := by
  have hn := h.1
  rw [bytesV_len, Nat.mul_one] at hn
  subst hn
  rcases ownsRow_open h with ⟨rfl, h0, -⟩ | ⟨g, cap, cur, rfl, -, hr, h3, -, h5, h6⟩
  · obtain rfl := List.eq_nil_of_length_eq_zero h0
    exact nil_string w
  · have := run_convert_bytes_arg (P := Try.prog) w 47 5 Try.underlying47 Try.underlying5 g 0 l.length cap (l.map fun b => (b.toNat : Int)) (by simp) (fun i hi => by
      rw [Nat.zero_add, hr.cell]
      have e : (bytesV l)[i]? = some (.int .u8 (l[i].toNat)) := by simp [bytesV, hi]
      rw [← h6, List.getElem?_take, if_pos (by omega)] at e
      rw [e]; simp [hi]) 9 Try.underlying9
    rw [this, strOfNums_S, map_back]

/-- Widths, and numbers. -/
abbrev IntsW (w : World) (ao : Option Addr) (ps : List (Nat × Nat)) : Prop := SlAt (fun p : Nat × Nat => [Value.int .i64 p.1]) 1 w ao ps
abbrev NumsW (w : World) (ao : Option Addr) (ps : List (Nat × Nat)) : Prop := SlAt (fun p : Nat × Nat => [Value.int .u64 p.2]) 1 w ao ps
/-- Each is a width. -/
def Wide (ps : List (Nat × Nat)) : Prop := ∀ p ∈ ps, 1 ≤ p.1 ∧ p.1 ≤ 8
def sumW : List (Nat × Nat) → Nat
  | [] => 0
  | p :: r => p.1 + sumW r
theorem sumW_snoc (l : List (Nat × Nat)) (p : Nat × Nat) : sumW (l ++ [p]) = sumW l + p.1 := by
  induction l with
  | nil => simp [sumW]
  | cons q l ih => simp [sumW, ih]; omega
theorem sumW_le : ∀ {l : List (Nat × Nat)}, Wide l → l.length ≤ sumW l ∧ sumW l ≤ 8 * l.length
  | [], _ => by simp [sumW]
  | p :: r, h => by
    have h1 := h p (by simp)
    have h2 := sumW_le (l := r) fun q hq => h q (by simp [hq])
    simp only [sumW, List.length_cons]; omega
theorem Wide.take {l : List (Nat × Nat)} (h : Wide l) (n : Nat) : Wide (l.take n) := fun p hp => h p (List.mem_of_mem_take hp)

set_option maxHeartbeats 400000 in
theorem may_yes (n : Nat) (h1 : 1 ≤ n) (h2 : n ≤ 8) (w : World) : Calls Try.prog 94 #[.int .i64 n] w fun e w' => e = .returned (.bool true) ∧ w = w' := by
  have h1' : (1 : Int) ≤ (n : Int) := by omega
  have h2' : (n : Int) ≤ 8 := by omega
  go_enter Try.func94, Try.ntmps94
  go_wp2
  go_ret
  exact ⟨rfl, rfl⟩

set_option maxHeartbeats 1000000 in
theorem size_any (ao : Option Addr) (c : Nat) (ps : List (Nat × Nat)) (w : World) (hs : IntsW w ao ps) (hw : Wide ps) (hl : ps.length ≤ 1000) :
    Calls Try.prog 89 #[.slice ao ps.length c] w fun e w' => e = .returned (.int .i64 (sumW ps)) ∧ w = w' := by
  go_enter Try.func89, Try.ntmps89
  go_wp2_with fail
  go_loop [3, 8] (fun s i => ∃ k : Nat, i = .int .i64 k ∧ k ≤ ps.length ∧ s = .int .i64 (sumW (ps.take k))) (fun _ i => ps.length - (intOf i).toNat)
  case atStart => exact ⟨0, rfl, Nat.zero_le _, rfl⟩
  case round =>
    obtain ⟨k, rfl, hk, rfl⟩ := hrel
    have hk0 : (0 : Int) ≤ (k : Int) := by omega
    by_cases hkl : k < ps.length
    · have hk1 : (k : Int) < (ps.length : Int) := by omega
      obtain ⟨b, off, rfl, hb, hc⟩ := hs.at (by omega)
      have hck := hc k hkl 0 _ rfl
      rw [Nat.mul_one, Nat.add_zero] at hck
      have hp := hw _ (List.getElem_mem hkl)
      obtain ⟨hp1, hp2⟩ := hp
      have hsn := Lib.hid (show sumW (ps.take (k + 1)) = sumW (ps.take k) + ps[k].1 by rw [List.take_succ_eq_append_getElem hkl, sumW_snoc])
      have hsl := sumW_le (hw.take k)
      rw [List.length_take] at hsl
      obtain ⟨hsl1, hsl2⟩ := hsl
      have hsl3 : sumW (ps.take k) ≤ 8000 := by omega
      clear hc hsl1 hsl2
      generalize ps[k].1 = n at *
      generalize hsk : sumW (ps.take k) = s at *
      have hsk' := Lib.hid hsk
      clear hsk
      go_wp2_with (go_at_call 94; refine (may_yes _ hp1 hp2 _).mono ?_; rintro e w' ⟨rfl, rfl⟩)
      go_round
      case rel => exact ⟨k + 1, by go_num, by omega, by rw [hsn.out]; go_num⟩
      case measure => first | (simp [intOf]; done) | (simp [intOf]; omega)
    · obtain rfl : k = ps.length := by omega
      rw [List.take_length]
      go_wp2_with fail
      go_ret
      exact ⟨rfl, rfl⟩

set_option maxHeartbeats 400000 in
theorem right_any (ao : Option Addr) (c : Nat) (ps : List (Nat × Nat)) (w : World) (hs : IntsW w ao ps) (hw : Wide ps) (hl : ps.length ≤ 1000) :
    Calls Try.prog 88 #[.slice ao ps.length c] w fun e w' => e = .returned (.bool true) ∧ w = w' := by
  by_cases h0 : ps.length = 0
  · have h0' : ((ps.length : Int) == 0) = true := by simpa using h0
    clear h0
    go_enter Try.func88, Try.ntmps88
    go_wp2_with fail
    go_ret
    exact ⟨rfl, rfl⟩
  · have h0' : ((ps.length : Int) == 0) = false := by simpa using h0
    have hsl := sumW_le hw
    have hp : decide (0 < sumW ps) = true := by simp; omega
    clear hsl
    go_enter Try.func88, Try.ntmps88
    go_wp2_with (go_at_call 89; refine (size_any _ _ _ _ hs hw hl).mono ?_; rintro e w' ⟨rfl, rfl⟩)
    go_ret
    exact ⟨rfl, rfl⟩

/-- The text with its length ahead; the cut of such a one. -/
def splitL (s : List UInt8) : List UInt8 × List UInt8 × Bool :=
  match s with
  | [] => ([], [], false)
  | b :: r => if r.length < b.toNat then ([], [], false) else (r.take b.toNat, r.drop b.toNat, true)
def splitV (s : List UInt8) : Value := .tuple #[.string (S (splitL s).1), .string (S (splitL s).2.1), .bool (splitL s).2.2]

set_option maxHeartbeats 1000000 in
theorem split_any (s : List UInt8) (hs : s.length ≤ 1000000) (w : World) : Calls Try.prog 55 #[.string (S s)] w fun e w' => e = .returned (splitV s) ∧ Below w.heap.size w w' := by
  cases s with
  | nil =>
    go_enter Try.func55, Try.ntmps55
    go_wp2_with fail
    go_ret3
    exact ⟨rfl, Below.refl _ _⟩
  | cons b r =>
    have hb : (b.toNat : Int) < 256 := by have := b.toNat_lt; omega
    have hl : (S (b :: r)).size = r.length + 1 := by rw [S_size]; rfl
    rw [List.length_cons] at hs
    by_cases h : r.length < b.toNat
    · have h' : (r.length : Int) < (b.toNat : Int) := by omega
      have hv : Hid (splitV (b :: r) = .tuple #[.string ByteArray.empty, .string ByteArray.empty, .bool false]) := Lib.hid (by simp only [splitV, splitL, if_pos h]; rfl)
      clear h
      go_enter Try.func55, Try.ntmps55
      go_wp2_with fail
      go_ret3
      exact ⟨ret_val (by rw [hv.out]; rfl), Below.refl _ _⟩
    · have h' : ¬ (r.length : Int) < (b.toNat : Int) := by omega
      have h2 : (b.toNat : Int) ≤ (r.length : Int) := by omega
      have hv : Hid (splitV (b :: r) = .tuple #[.string (S (r.take b.toNat)), .string (S (r.drop b.toNat)), .bool true]) := Lib.hid (by simp only [splitV, splitL, if_neg h])
      clear h
      go_enter Try.func55, Try.ntmps55
      go_wp2_with fail
      go_region
      go_wp2_with fail
      go_ret3
      refine ⟨ret_val ?_, by go_grown⟩
      rw [hv.out]
      show Value.tuple #[.string (S (List.take (1 + b.toNat - 1) r)), .string (S (List.take (r.length + 1 - (1 + b.toNat)) (List.drop (1 + b.toNat) (b :: r)))), .bool true] = _
      rw [Nat.add_sub_cancel_left, Nat.add_comm 1, List.drop_succ_cons, List.take_of_length_le (l := List.drop b.toNat r) (by rw [List.length_drop]; omega)]

/-- Numbers as bytes. -/
def wtext (ps : List (Nat × Nat)) : List UInt8 := ps.flatMap fun p => le p.2 p.1
theorem wtext_snoc (l : List (Nat × Nat)) (p : Nat × Nat) : wtext (l ++ [p]) = wtext l ++ le p.2 p.1 := by simp [wtext]
theorem wtext_len (l : List (Nat × Nat)) : (wtext l).length = sumW l := by
  induction l with
  | nil => rfl
  | cons p l ih => simp only [wtext, List.flatMap_cons, List.length_append, le_length, sumW] at *; rw [ih]
/-- Each has room in its width. -/
def Fit (ps : List (Nat × Nat)) : Prop := ∀ p ∈ ps, p.2 < 256 ^ p.1
theorem pow_le8 {k : Nat} (h : k ≤ 8) : 256 ^ k ≤ 18446744073709551616 := Nat.le_trans (Nat.pow_le_pow_right (by decide) h) (by decide)

set_option maxRecDepth 100000 in
set_option maxHeartbeats 2000000 in
theorem write_fit (aw an : Option Addr) (cw cn : Nat) (ps : List (Nat × Nat)) (w : World) (hsw : IntsW w aw ps) (hsn : NumsW w an ps) (hw : Wide ps) (hf : Fit ps) (hl : ps.length ≤ 1000) :
    Calls Try.prog 74 #[.slice aw ps.length cw, .slice an ps.length cn] w fun e w' => e = .returned (.tuple #[.string (S (wtext ps)), .bool true]) ∧ Below w.heap.size w w' := by
  obtain ⟨i0, hi, hz0, hz1, hz2⟩ := info_parts infoB
  have hsl := sumW_le hw
  have hsum : sumW ps ≤ 8000 := by omega
  clear hsl
  have hfull := Lib.hid (wtext_len ps)
  go_enter Try.func74, Try.ntmps74
  go_wp2_with (first | (go_at_call 88; refine (right_any _ _ _ _ hsw hw hl).mono ?_; rintro e w' ⟨rfl, rfl⟩) | (go_at_call 89; refine (size_any _ _ _ _ hsw hw hl).mono ?_; rintro e w' ⟨rfl, rfl⟩) | (at_make; refine wpList_make_own _ rfl _ _ 47 rfl w.heap.size 5 i0 (.int .u8 0) 1 Try.underlying47 hi hz0 hz1 .i64 .i64 _ (sumW ps) rfl rfl rfl (by rw [hz2]; omega) (by unfold maxLen; omega) (Nat.le_refl _) ?_; intro w1 hown1 hg1; have hB1 : Below w.heap.size w w1 := ⟨hg1.os, hg1.tape, hg1.output, hg1.size, fun k hk => hg1.block k hk (by simp)⟩))
  go_loopw [6, 25] (fun v i wr => ∃ k : Nat, i = .int .i64 k ∧ k ≤ ps.length ∧ wr.ownsRow w.heap.size 5 1 v (wtext (ps.take k)).length (bytesV (wtext (ps.take k))) ∧ Below w.heap.size w wr) (fun _ i _ => ps.length - (intOf i).toNat)
  case atStart => exact ⟨0, rfl, Nat.zero_le _, hown1, hB1⟩
  case round =>
    obtain ⟨k, rfl, hk, hown, hB⟩ := hrel
    have hk0 : (0 : Int) ≤ (k : Int) := by omega
    by_cases hkl : k < ps.length
    · have hk1 : (k : Int) < (ps.length : Int) := by omega
      obtain ⟨bw, ow, rfl, hbw, hcw⟩ := hsw.at (by omega)
      obtain ⟨bn, on, rfl, hbn, hcn⟩ := hsn.at (by omega)
      have cw0 := (hB.cell (p := ⟨bw, ow + k * 1 + 0, none⟩) hbw).trans (hcw k hkl 0 _ rfl)
      have cn0 := (hB.cell (p := ⟨bn, on + k * 1 + 0, none⟩) hbn).trans (hcn k hkl 0 _ rfl)
      rw [Nat.mul_one, Nat.add_zero] at cw0 cn0
      obtain ⟨hm1, hm8⟩ := hw _ (List.getElem_mem hkl)
      have hnf := hf _ (List.getElem_mem hkl)
      have hsnoc := Lib.hid (show wtext (ps.take (k + 1)) = wtext (ps.take k) ++ le ps[k].2 ps[k].1 by rw [List.take_succ_eq_append_getElem hkl, wtext_snoc])
      have hacc : (wtext (ps.take k)).length ≤ 8000 := by
        rw [wtext_len]
        have := sumW_le (hw.take k)
        rw [List.length_take] at this; omega
      clear hcw hcn
      generalize ps[k].1 = m at *
      generalize ps[k].2 = n at *
      generalize wtext (ps.take k) = acc at *
      have hn64 : n < 18446744073709551616 := Nat.lt_of_lt_of_le hnf (pow_le8 hm8)
      have hnf' := Lib.hid hnf
      clear hnf
      have cn0' := cn0
      go_wp2_with fail
      go_loopw [6, 9, 35] (fun v x j wi => ∃ q : Nat, j = .int .i64 q ∧ q ≤ m ∧ x = .int .u64 (n / 256 ^ q : Nat) ∧ wi.ownsRow w.heap.size 5 1 v (acc ++ le n q).length (bytesV (acc ++ le n q)) ∧ Below w.heap.size w wi) (fun _ _ j _ => m - (intOf j).toNat)
      case atStart => exact ⟨0, rfl, Nat.zero_le _, by simp, by rw [le_zero, List.append_nil]; exact hown, hB⟩
      case round =>
        obtain ⟨q, rfl, hq, rfl, hownq, hBq⟩ := hrel
        have hd : n / 256 ^ q < 18446744073709551616 := Nat.lt_of_le_of_lt (Nat.div_le_self _ _) hn64
        have hq0 : (0 : Int) ≤ (q : Int) := by omega
        have hle := le_length n q
        have hlen : (acc ++ le n q).length = acc.length + q := by rw [List.length_append, hle]
        by_cases hqm : q < m
        · have hqm' : (q : Int) < (m : Int) := by omega
          have hls := Lib.hid (le_succ n q)
          have hds := Lib.hid (div_pow_succ n q)
          generalize n / 256 ^ q = x at *
          go_wp2_with (at_builtin; refine wpList_append_own_at _ rfl _ _ 47 rfl w.heap.size 5 i0 (.int .u8 0) 1 1 Try.underlying47 hi hz0 hz1 hz2 rfl (by decide) _ (acc ++ le n q).length _ rfl (hownq.alloc _) ⟨wr.heap.size, 0, none⟩ 1 1 _ rfl rfl (cell_one_new _ _ _) ?h1 (by rw [hlen]; unfold maxLen; omega) (by rw [hlen]; omega) (by have := hBq.size; simp; omega) ?_; (case h1 => (intro u hu; simp at hu; subst hu; rfl)); intro v' w3 hown' hgrow hnil hat)
          go_roundw
          case rel =>
            refine ⟨q + 1, by go_num, by omega, by rw [hds.out]; simp, ?_, below_grown (hBq.alloc hBq.size _) hgrow (fun k e => (hownq.lt k e).1) (by have := hBq.size; simp; omega)⟩
            rw [hls.out, ← List.append_assoc, bytesV_append, List.length_append, List.length_singleton]
            have e : bytesV [UInt8.ofNat (x % 256)] = [.int .u8 ((x : Int) % 256)] := by simp [bytesV]
            rw [e]
            exact hown'
          case measure => first | (simp [intOf]; done) | (simp [intOf]; omega)
        · obtain rfl : q = m := by omega
          have hz : n / 256 ^ q = 0 := Nat.div_eq_of_lt hnf'.out
          generalize n / 256 ^ q = x at *
          subst hz
          go_wp2_with fail
          go_roundw
          case rel => exact ⟨k + 1, by go_num, by omega, by rw [hsnoc.out]; exact hownq, hBq⟩
          case measure => first | (simp [intOf]; done) | (simp [intOf]; omega)
    · obtain rfl : k = ps.length := by omega
      rw [List.take_length] at hown
      have hstr := own_string hown
      clear hown
      go_wp2_with fail
      go_ret2
      exact ⟨rfl, hB⟩

end Go.Proofs.Ytcjeonamebnpfaa
