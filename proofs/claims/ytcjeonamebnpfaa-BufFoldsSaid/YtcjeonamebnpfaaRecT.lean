/-
  The walks of (rec.Update).bytes, rec.Text and (buf.Buffer).Text.
-/
import Derived.Test.YtcjeonamebnpfaaBld
import Derived.Test.YtcjeonamebnpfaaChk
import Derived.Test.YtcjeonamebnpfaaTmP
import Derived.Test.YtcjeonamebnpfaaUAt
import Derived.Test.YtcjeonamebnpfaaBoxU
namespace Go.Proofs.Ytcjeonamebnpfaa
open Go.RowKit
attribute [local go_sem ↓] Go.wp_at_zero Go.wp_at_succ

/-- An update's bytes, put together. -/
theorem bytes_put (u : Upd) (h : u.kind = 1) : u.bytes = [UInt8.ofNat u.kind] ++ joinT u.key ++ joinT u.val := by
  unfold Upd.bytes joinT; rw [if_pos h, if_neg (by omega)]; simp
theorem bytes_del (u : Upd) (h : u.kind = 2) : u.bytes = [UInt8.ofNat u.kind] ++ joinT u.key := by
  unfold Upd.bytes joinT; rw [if_neg (by omega), if_neg (by omega)]; simp
theorem bytes_add (u : Upd) (h : u.kind = 3) : u.bytes = [UInt8.ofNat u.kind] ++ joinT u.key ++ le u.delta 8 := by
  unfold Upd.bytes joinT; rw [if_neg (by omega), if_pos h]; simp

theorem intsW_lies (w : World) (b : Nat) (hb : w.heap.size = b) (c : Array Value) (e : TypeId) (ps : List (Nat × Nat)) (hc : c.toList = ps.map fun p => .int .i64 p.1) : IntsW (w.alloc (.cells c e (0, 0))) (some ⟨b, 0, none⟩) ps := by
  subst hb
  exact intsW_new w c e (0, 0) ps hc
theorem numsW_lies (w : World) (b : Nat) (hb : w.heap.size = b) (c : Array Value) (e : TypeId) (ps : List (Nat × Nat)) (hc : c.toList = ps.map fun p => .int .u64 p.2) : NumsW (w.alloc (.cells c e (0, 0))) (some ⟨b, 0, none⟩) ps := by
  subst hb
  exact numsW_new w c e (0, 0) ps hc
set_option maxRecDepth 100000 in
set_option maxHeartbeats 4000000 in
theorem bytes_any (k : Nat) (key val : List UInt8) (d : Nat) (hu : Tm ⟨k, key, val, d⟩) (w : World) :
    Calls Try.prog 84 #[.agg #[.int .u8 k, .string (S key), .string (S val), .int .u64 d]] w fun e w' => e = .returned (.string (S (Upd.mk k key val d).bytes)) ∧ Below w.heap.size w w' := by
  have hkl : key.length ≤ 3 := hu.klen
  have hvl : val.length ≤ 20 := hu.vlen
  have hd : d < 18446744073709551616 := hu.wf.2
  have hkk := hu.kind
  have hb1 := bytes_put ⟨k, key, val, d⟩
  have hb2 := bytes_del ⟨k, key, val, d⟩
  have hb3 := bytes_add ⟨k, key, val, d⟩
  have hcv := fun w n c => run_str1 (P := Try.prog) 47 9 5 Try.underlying47 Try.underlying5 Try.underlying9 w n c
  have HJK := Lib.hid (fun W => lendJoin_any key (by omega) W)
  have HJV := Lib.hid (fun W => lendJoin_any val (by omega) W)
  dsimp only at hkk hb1 hb2 hb3
  generalize (Upd.mk k key val d).bytes = B at *
  have hJK := joinT_len key
  have hJV := joinT_len val
  generalize joinT key = JK at *
  generalize joinT val = JV at *
  have hJKl : JK.length ≤ 4 := by omega
  have hJVl : JV.length ≤ 21 := by omega
  clear hu hkl hvl hJK hJV
  rcases hkk with rfl | rfl | rfl
  · have HB := Lib.hid (hb1 rfl)
    clear hb1 hb2 hb3
    go_enter Try.func84, Try.ntmps84
    go_wp2_with fail
    refine (thread (HJK.out _) _ _ (Below.refl _ _) (Nat.le_refl _)).mono ?_
    rintro e w1 ⟨rfl, hX1, hk1, -, -, hz1⟩
    have c0 : w1.cell? ⟨w.heap.size, 0, none⟩ = some (.int .u8 1) := (hk1 w.heap.size 0 (by simp)).trans (by simp)
    have c2 : w1.cell? ⟨w.heap.size, 2, none⟩ = some (.string (S val)) := (hk1 w.heap.size 2 (by simp)).trans (by simp)
    have HB1 := Lib.hid (show Below w.heap.size w w1 from Below.trans (by go_grown) (hX1.mono (by simp)))
    have d0 := cell_past (.cells #[.int .u8 1] 5) c0
    have d2 := cell_past (.cells #[.int .u8 1] 5) c2
    have hzz := HB1.out.size
    clear hk1 hX1 hz1
    go_wp2_with fail
    refine (thread (HJV.out _) w1.heap.size w1 (by go_grown) (by go_grown)).mono ?_
    rintro e w2 ⟨rfl, hX2, -, -, -, hz2⟩
    have hB2 := HB1.out.trans (hX2.mono hzz)
    go_wp2_with fail
    go_ret
    exact ⟨ret_val (by rw [HB.out]; simp), hB2⟩
  · have HB := Lib.hid (hb2 rfl)
    clear hb1 hb2 hb3
    go_enter Try.func84, Try.ntmps84
    go_wp2_with fail
    refine (thread (HJK.out _) _ _ (Below.refl _ _) (Nat.le_refl _)).mono ?_
    rintro e w1 ⟨rfl, hX1, hk1, -, -, hz1⟩
    have c0 : w1.cell? ⟨w.heap.size, 0, none⟩ = some (.int .u8 2) := (hk1 w.heap.size 0 (by simp)).trans (by simp)
    have HB1 := Lib.hid (show Below w.heap.size w w1 from Below.trans (by go_grown) (hX1.mono (by simp)))
    have d0 := cell_past (.cells #[.int .u8 2] 5) c0
    have hzz := HB1.out.size
    clear hk1 hX1 hz1
    go_wp2_with fail
    go_ret
    exact ⟨ret_val (by rw [HB.out]; simp), HB1.out.alloc hzz _⟩
  · have HB := Lib.hid (hb3 rfl)
    clear hb1 hb2 hb3
    go_enter Try.func84, Try.ntmps84
    go_wp2_with fail
    refine (thread (HJK.out _) _ _ (Below.refl _ _) (Nat.le_refl _)).mono ?_
    rintro e w1 ⟨rfl, hX1, hk1, -, -, hz1⟩
    have c0 : w1.cell? ⟨w.heap.size, 0, none⟩ = some (.int .u8 3) := (hk1 w.heap.size 0 (by simp)).trans (by simp)
    have c3 : w1.cell? ⟨w.heap.size, 3, none⟩ = some (.int .u64 d) := (hk1 w.heap.size 3 (by simp)).trans (by simp)
    have HB1 := Lib.hid (show Below w.heap.size w w1 from Below.trans (by go_grown) (hX1.mono (by simp)))
    have d0 := cell_past (.cells #[.int .u8 3] 5) c0
    have d3 := cell_past (.cells #[.int .i64 8] 3) (cell_past (.cells #[.int .u8 3] 5) c3)
    have hzz := HB1.out.size
    have hI := (intsW_lies (w1.alloc (.cells #[.int .u8 3] 5)) (w1.heap.size + 1) (by simp) #[.int .i64 8] 3 [(8, d)] rfl).kept (Below.alloc (Below.refl _ _) (Nat.le_refl _) (.cells #[.int .u64 d] 26)) (Nat.le_refl _)
    have hN := numsW_lies ((w1.alloc (.cells #[.int .u8 3] 5)).alloc (.cells #[.int .i64 8] 3)) (w1.heap.size + 1 + 1) (by simp) #[.int .u64 d] 26 [(8, d)] rfl
    have hwr := write_fit _ _ 1 1 [(8, d)] _ hI hN (wide1 8 d (by decide) (by decide)) (fun p hp => by rw [List.mem_singleton] at hp; rw [hp]; exact hd) (by simp)
    have hwt : wtext [(8, d)] = le d 8 := by simp [wtext]
    rw [hwt] at hwr
    have HWR := Lib.hid hwr
    clear hk1 hX1 hz1 hwr hI hN hwt
    go_wp2_with fail
    refine (thread HWR.out w1.heap.size w1 (by go_grown) (by go_grown)).mono ?_
    rintro e w2 ⟨rfl, hX2, -, -, -, hz2⟩
    have hB2 := HB1.out.trans (hX2.mono hzz)
    go_wp2_with fail
    go_ret
    exact ⟨ret_val (by rw [HB.out]; simp), hB2⟩

/-- The bytes of updates. -/
def textU (l : List Upd) : List UInt8 := l.flatMap Upd.bytes
theorem textU_acc : ∀ (l : List Upd) (acc : List UInt8), (∀ u ∈ l, Tm u) → textAcc acc l = (acc ++ textU l, 0)
  | [], acc, _ => by simp [textAcc, textU]
  | u :: l, acc, h => by
    unfold textAcc
    rw [if_pos (h u (List.mem_cons_self ..)).check, textU_acc l _ (fun x hx => h x (List.mem_cons_of_mem _ hx))]
    simp [textU]
theorem textU_step {l : List Upd} {i : Nat} (hi : i < l.length) : textU (l.take (i + 1)) = textU (l.take i) ++ (l[i]).bytes := by
  rw [List.take_succ_eq_append_getElem hi]; simp only [textU, List.flatMap_append, List.flatMap_cons, List.flatMap_nil, List.append_nil]
theorem bytes_40 {u : Upd} (h : Tm u) : u.bytes.length ≤ 40 := by
  have h2 := h.klen
  have h3 := h.vlen
  unfold Upd.bytes
  simp only [List.length_append, List.length_cons, List.length_nil]
  split <;> split <;> simp <;> omega
theorem textU_len : ∀ l : List Upd, (∀ u ∈ l, Tm u) → (textU l).length ≤ 40 * l.length
  | [], _ => by simp [textU]
  | u :: l, h => by
    have h1 := textU_len l (fun x hx => h x (List.mem_cons_of_mem _ hx))
    have h2 := bytes_40 (h u (List.mem_cons_self ..))
    have h3 : (textU (u :: l)).length = u.bytes.length + (textU l).length := by simp [textU]
    rw [h3, List.length_cons]; omega

set_option maxRecDepth 100000 in
set_option maxHeartbeats 4000000 in
theorem recText_any (a : Option Addr) (n c : Nat) (l : List Upd) (w : World) (hn : n = l.length) (hs : SlAt Upd.cells 4 w a l) (hl : l.length ≤ 10000) (hf : ∀ u ∈ l, Tm u) :
    Calls Try.prog 65 #[.slice a n c] w fun e w' => e = .returned (.tuple #[.string (S (textU l)), .int .i64 0]) ∧ Below w.heap.size w w' := by
  have HN := Lib.hid hn
  clear hn
  go_enter Try.func65, Try.ntmps65
  go_wp2_with fail
  go_loopw [10] (fun i wr => ∃ j : Nat, i = .int .i64 j ∧ j ≤ n ∧ IsB w.heap.size w.heap.size (Lib.byteCells (textU (l.take j))) wr ∧ Below w.heap.size w wr ∧ w.heap.size < wr.heap.size) (fun i _ => n - (intOf i).toNat)
  case atStart => exact ⟨0, rfl, Nat.zero_le _, by simpa [textU, Lib.byteCells] using Lib.fresh_isBuilder 123 5 w, by go_grown, by simp⟩
  case round =>
    obtain ⟨j, rfl, hj, hI, hB, hz⟩ := hrel
    have hj0 : (0 : Int) ≤ (j : Int) := Int.natCast_nonneg _
    have HI := Lib.hid hI
    clear hI
    by_cases hjn : j < n
    · have hj1 : (j : Int) < (n : Int) := by omega
      have hjl : j < l.length := by have := HN.out; omega
      obtain ⟨b, off, rfl, hb, t0, t1, t2, t3⟩ := SlAt.cells4 hs j hjl
      have q0 := (cell_below hB hb _).trans t0
      have q1 := (cell_below hB hb _).trans t1
      have q2 := (cell_below hB hb _).trans t2
      have q3 := (cell_below hB hb _).trans t3
      have hT := hf _ (List.getElem_mem hjl)
      have hst := Lib.hid (textU_step hjl)
      have htl := textU_len (l.take j) (fun x hx => hf x (List.mem_of_mem_take hx))
      rw [List.length_take] at htl
      clear t0 t1 t2 t3
      generalize l[j] = u at *
      have hbl := bytes_40 hT
      have HC := Lib.hid (fun W => chk u.kind u.key u.val u.delta hT.wf.1 hT.wf.2 W)
      rw [show (Upd.mk u.kind u.key u.val u.delta).check = 0 from hT.check] at HC
      have HBY := Lib.hid (fun W => bytes_any u.kind u.key u.val u.delta hT W)
      rw [show (Upd.mk u.kind u.key u.val u.delta).bytes = u.bytes from rfl] at HBY
      generalize u.bytes = UB at *
      clear hT
      go_wp2_with fail
      refine (thread (HC.out _) wr.heap.size wr (by go_grown) (by go_grown)).mono ?_
      rintro e w1 ⟨rfl, hX1, hk1, -, -, hz1⟩
      have e0 : w1.cell? ⟨wr.heap.size, 0, none⟩ = some (.int .u8 u.kind) := (hk1 wr.heap.size 0 (by simp)).trans (by simp)
      have e1 : w1.cell? ⟨wr.heap.size, 1, none⟩ = some (.string (S u.key)) := (hk1 wr.heap.size 1 (by simp)).trans (by simp)
      have e2 : w1.cell? ⟨wr.heap.size, 2, none⟩ = some (.string (S u.val)) := (hk1 wr.heap.size 2 (by simp)).trans (by simp)
      have e3 : w1.cell? ⟨wr.heap.size, 3, none⟩ = some (.int .u64 u.delta) := (hk1 wr.heap.size 3 (by simp)).trans (by simp)
      clear hk1
      go_wp2_with fail
      refine (thread (HBY.out _) wr.heap.size wr hX1 hz1).mono ?_
      rintro e w2 ⟨rfl, hX2, -, -, -, hz2⟩
      have HI2 := Lib.hid (HI.out.on hX2)
      have hB2 := hB.trans (hX2.mono hB.size)
      have HW := Lib.hid (bld_write w.heap.size w.heap.size _ (S UB) w2 HI2.out (by rw [Lib.byteCells_length, S_size]; omega) hB2.size)
      clear HI HC HBY hX1 hX2 e0 e1 e2 e3 htl hbl
      go_wp2_with fail
      refine (HW.out).mono ?_
      rintro e w3 ⟨rfl, hI3, hX3⟩
      rw [strCells_S, ← byteCells_app, ← hst.out] at hI3
      have hB3 := hB2.trans hX3
      have hz3 : w.heap.size < w3.heap.size := by have := hX3.size; omega
      clear HW
      go_wp2_with fail
      go_roundw
      (case rel => exact (⟨j + 1, by go_num, by omega, hI3, hB3, hz3⟩))
      (case measure => first | (simp [intOf]; done) | (simp [intOf]; omega))
    · obtain rfl : j = n := by omega
      have hta : l.take j = l := by rw [HN.out, List.take_length]
      rw [hta] at HI
      clear hta
      go_wp2_with fail
      refine (bld_string w.heap.size w.heap.size (textU l) wr HI.out (by omega)).mono ?_
      rintro e w1 ⟨rfl, hX1⟩
      go_wp2_with fail
      go_ret2
      exact ⟨rfl, hB.trans hX1⟩

set_option maxRecDepth 100000 in
set_option maxHeartbeats 1000000 in
theorem bufText_any (a : Option Addr) (n c : Nat) (l : List Upd) (w : World) (hn : n = l.length) (hs : SlAt Upd.cells 4 w a l) (hl : l.length ≤ 10000) (hf : ∀ u ∈ l, Tm u) :
    Calls Try.prog 39 #[.agg #[.slice a n c]] w fun e w' => e = .returned (.tuple #[.string (S (textU l)), .int .i64 0]) ∧ Below w.heap.size w w' := by
  have HS := Lib.hid hs
  have HT := Lib.hid (fun W h => recText_any a n c l W hn h hl hf)
  clear hs hn hf hl
  go_enter Try.func39, Try.ntmps39
  go_wp2_with fail
  refine (thread (HT.out _ (HS.out.kept (B := w.heap.size) (by go_grown) (Nat.le_refl _))) w.heap.size w (by go_grown) (by go_grown)).mono ?_
  rintro e w1 ⟨rfl, hX1, -, -, -, hz1⟩
  go_wp2_with fail
  go_ret2
  exact ⟨rfl, hX1⟩

end Go.Proofs.Ytcjeonamebnpfaa
