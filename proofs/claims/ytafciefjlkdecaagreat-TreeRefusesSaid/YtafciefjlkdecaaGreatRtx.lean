/-
  The walks of rec.Text, (buf.Buffer).Text at any updates: their bytes, or the first error.
-/
import Derived.Test.YtafciefjlkdecaaGreatHlv
namespace Go.Proofs.YtafciefjlkdecaaGreat
open Go.RowKit
attribute [local go_sem ↓] Go.wp_at_zero Go.wp_at_succ

/-- An update that may be. -/
structure Okay (u : Upd) : Prop where
  wf : u.Wf
  check : u.check = 0
theorem Okay.kind {u : Upd} (h : Okay u) : u.kind = 1 ∨ u.kind = 2 ∨ u.kind = 3 := by have := Upd.check_ok h.check; omega
theorem Okay.klen {u : Upd} (h : Okay u) : u.key.length ≤ 16 := (Upd.check_ok h.check).2.1
theorem Okay.kpos {u : Upd} (h : Okay u) : 1 ≤ u.key.length := (Upd.check_ok h.check).1
theorem Okay.vlen {u : Upd} (h : Okay u) : u.val.length ≤ 32 := (Upd.check_ok h.check).2.2.1
theorem Okay.val {u : Upd} (h : Okay u) : u.kind = 1 ∨ u.val = [] := (Upd.check_ok h.check).2.2.2.2.2.1
theorem Okay.delta {u : Upd} (h : Okay u) : u.kind = 3 ∨ u.delta = 0 := (Upd.check_ok h.check).2.2.2.2.2.2

set_option maxRecDepth 100000 in
set_option maxHeartbeats 4000000 in
theorem bytes_ok (k : Nat) (key val : List UInt8) (d : Nat) (hu : Okay ⟨k, key, val, d⟩) (w : World) :
    Calls Tryz.prog 182 #[.agg #[.int .u8 k, .string (S key), .string (S val), .int .u64 d]] w fun e w' => e = .returned (.string (S (Upd.mk k key val d).bytes)) ∧ Below w.heap.size w w' := by
  have hkl : key.length ≤ 16 := hu.klen
  have hvl : val.length ≤ 32 := hu.vlen
  have hd : d < 18446744073709551616 := hu.wf.2
  have hkk := hu.kind
  have hb1 := bytes_put ⟨k, key, val, d⟩
  have hb2 := bytes_del ⟨k, key, val, d⟩
  have hb3 := bytes_add ⟨k, key, val, d⟩
  have hcv := fun w n c => run_str1 (P := Tryz.prog) 22 9 5 Tryz.underlying22 Tryz.underlying5 Tryz.underlying9 w n c
  have HJK := Lib.hid (fun W => lendJoin_any key (by omega) W)
  have HJV := Lib.hid (fun W => lendJoin_any val (by omega) W)
  dsimp only at hkk hb1 hb2 hb3
  generalize (Upd.mk k key val d).bytes = B at *
  have hJK := joinT_len key
  have hJV := joinT_len val
  generalize joinT key = JK at *
  generalize joinT val = JV at *
  have hJKl : JK.length ≤ 17 := by omega
  have hJVl : JV.length ≤ 33 := by omega
  clear hu hkl hvl hJK hJV
  rcases hkk with rfl | rfl | rfl
  · have HB := Lib.hid (hb1 rfl)
    clear hb1 hb2 hb3
    go_enter Tryz.func182, Tryz.ntmps182
    go_wp2_with fail
    refine (thread (HJK.out _) _ _ (Below.refl _ _) (Nat.le_refl _)).mono ?_
    rintro e w1 ⟨rfl, hX1, hk1, -, -, hz1⟩
    have c0 : w1.cell? ⟨w.heap.size, 0, none⟩ = some (.int .u8 1) := (hk1 w.heap.size 0 (by simp)).trans (by simp)
    have c2 : w1.cell? ⟨w.heap.size, 2, none⟩ = some (.string (S val)) := (hk1 w.heap.size 2 (by simp)).trans (by simp)
    have HB1 := Lib.hid (show Below w.heap.size w w1 from Below.trans (by go_grown) (hX1.mono (by simp)))
    have d0 := cell_past (.cells #[.int .u8 1] 5) c0
    have d2 := cell_past (.cells #[.int .u8 1] 5) c2
    have hzz := HB1.out.size
    clear hk1 hX1 hz1
    go_wp2_with fail
    refine (thread (HJV.out _) w1.heap.size w1 (by go_grown) (by go_grown)).mono ?_
    rintro e w2 ⟨rfl, hX2, -, -, -, hz2⟩
    have hB2 := HB1.out.trans (hX2.mono hzz)
    go_wp2_with fail
    go_ret
    exact ⟨ret_val (by rw [HB.out]; simp), hB2⟩
  · have HB := Lib.hid (hb2 rfl)
    clear hb1 hb2 hb3
    go_enter Tryz.func182, Tryz.ntmps182
    go_wp2_with fail
    refine (thread (HJK.out _) _ _ (Below.refl _ _) (Nat.le_refl _)).mono ?_
    rintro e w1 ⟨rfl, hX1, hk1, -, -, hz1⟩
    have c0 : w1.cell? ⟨w.heap.size, 0, none⟩ = some (.int .u8 2) := (hk1 w.heap.size 0 (by simp)).trans (by simp)
    have HB1 := Lib.hid (show Below w.heap.size w w1 from Below.trans (by go_grown) (hX1.mono (by simp)))
    have d0 := cell_past (.cells #[.int .u8 2] 5) c0
    have hzz := HB1.out.size
    clear hk1 hX1 hz1
    go_wp2_with fail
    go_ret
    exact ⟨ret_val (by rw [HB.out]; simp), HB1.out.alloc hzz _⟩
  · have HB := Lib.hid (hb3 rfl)
    clear hb1 hb2 hb3
    go_enter Tryz.func182, Tryz.ntmps182
    go_wp2_with fail
    refine (thread (HJK.out _) _ _ (Below.refl _ _) (Nat.le_refl _)).mono ?_
    rintro e w1 ⟨rfl, hX1, hk1, -, -, hz1⟩
    have c0 : w1.cell? ⟨w.heap.size, 0, none⟩ = some (.int .u8 3) := (hk1 w.heap.size 0 (by simp)).trans (by simp)
    have c3 : w1.cell? ⟨w.heap.size, 3, none⟩ = some (.int .u64 d) := (hk1 w.heap.size 3 (by simp)).trans (by simp)
    have HB1 := Lib.hid (show Below w.heap.size w w1 from Below.trans (by go_grown) (hX1.mono (by simp)))
    have d0 := cell_past (.cells #[.int .u8 3] 5) c0
    have d3 := cell_past (.cells #[.int .i64 8] 3) (cell_past (.cells #[.int .u8 3] 5) c3)
    have hzz := HB1.out.size
    have hI := (intsW_lies (w1.alloc (.cells #[.int .u8 3] 5)) (w1.heap.size + 1) (by simp) #[.int .i64 8] 3 [(8, d)] rfl).kept (Below.alloc (Below.refl _ _) (Nat.le_refl _) (.cells #[.int .u64 d] 25)) (Nat.le_refl _)
    have hN := numsW_lies ((w1.alloc (.cells #[.int .u8 3] 5)).alloc (.cells #[.int .i64 8] 3)) (w1.heap.size + 1 + 1) (by simp) #[.int .u64 d] 25 [(8, d)] rfl
    have hwr := write_fit _ _ 1 1 [(8, d)] _ hI hN (wide1 8 d (by decide) (by decide)) (fun p hp => by rw [List.mem_singleton] at hp; rw [hp]; exact hd) (by simp)
    have hwt : wtext [(8, d)] = le d 8 := by simp [wtext]
    rw [hwt] at hwr
    have HWR := Lib.hid hwr
    clear hk1 hX1 hz1 hwr hI hN hwt
    go_wp2_with fail
    refine (thread HWR.out w1.heap.size w1 (by go_grown) (by go_grown)).mono ?_
    rintro e w2 ⟨rfl, hX2, -, -, -, hz2⟩
    have hB2 := HB1.out.trans (hX2.mono hzz)
    go_wp2_with fail
    go_ret
    exact ⟨ret_val (by rw [HB.out]; simp), hB2⟩


/-- The bytes of updates, of which the first ones may be. -/
theorem bytes_60 {u : Upd} (h : Okay u) : u.bytes.length ≤ 60 := by
  have h1 := h.klen
  have h2 := h.vlen
  rcases h.kind with k | k | k
  · rw [bytes_put u k, List.length_append, List.length_append, joinT_len, joinT_len, List.length_singleton]; omega
  · rw [bytes_del u k, List.length_append, joinT_len, List.length_singleton]; omega
  · rw [bytes_add u k, List.length_append, List.length_append, joinT_len, le_length, List.length_singleton]; omega
theorem textU_len60 : ∀ l : List Upd, (∀ u ∈ l, Okay u) → (textU l).length ≤ 60 * l.length
  | [], _ => by simp [textU]
  | u :: l, h => by
    have h1 := textU_len60 l (fun x hx => h x (List.mem_cons_of_mem _ hx))
    have h2 := bytes_60 (h u (List.mem_cons_self ..))
    have h3 : (textU (u :: l)).length = u.bytes.length + (textU l).length := by simp [textU]
    rw [h3, List.length_cons]; omega
theorem textU_app (a b : List Upd) : textU (a ++ b) = textU a ++ textU b := by unfold textU; rw [List.flatMap_append]
theorem textAcc_ok : ∀ (l : List Upd) (acc : List UInt8), (∀ u ∈ l, u.check = 0) → textAcc acc l = (acc ++ textU l, 0)
  | [], acc, _ => by simp [textAcc, textU]
  | u :: l, acc, h => by
    rw [textAcc, if_pos (h u (List.mem_cons_self ..)), textAcc_ok l _ (fun x hx => h x (List.mem_cons_of_mem _ hx))]
    simp [textU]
theorem textAcc_at {l : List Upd} {j : Nat} (hj : j < l.length) (ho : ∀ u ∈ l.take j, u.check = 0) (hc : ¬ (l[j]).check = 0) (acc : List UInt8) : textAcc acc l = ([], (l[j]).check) := by
  induction l generalizing acc j with
  | nil => simp at hj
  | cons u l ih =>
    cases j with
    | zero => rw [textAcc, if_neg (by simpa using hc)]; simp
    | succ j =>
      rw [textAcc, if_pos (ho u (by simp))]
      exact ih (by simpa using hj) (fun x hx => ho x (by simp [hx])) (by simpa using hc) _

set_option maxRecDepth 100000 in
set_option maxHeartbeats 4000000 in
theorem recText_gen (a : Option Addr) (n c : Nat) (l : List Upd) (w : World) (hn : n = l.length) (hs : SlAt Upd.cells 4 w a l) (hl : l.length ≤ 10000) (hf : ∀ u ∈ l, u.Wf) :
    Calls Tryz.prog 167 #[.slice a n c] w fun e w' => e = .returned (.tuple #[.string (S (textAcc [] l).1), .int .i64 (textAcc [] l).2]) ∧ Below w.heap.size w w' := by
  have HN := Lib.hid hn
  clear hn
  go_enter Tryz.func167, Tryz.ntmps167
  go_wp2_with fail
  go_loopw [10] (fun i wr => ∃ j : Nat, i = .int .i64 j ∧ j ≤ n ∧ Hid (∀ u ∈ l.take j, Okay u) ∧ IsB w.heap.size w.heap.size (Lib.byteCells (textU (l.take j))) wr ∧ Below w.heap.size w wr ∧ w.heap.size < wr.heap.size) (fun i _ => n - (intOf i).toNat)
  case atStart => exact ⟨0, rfl, Nat.zero_le _, Lib.hid (fun u hu => by simp at hu), by simpa [textU, Lib.byteCells] using Lib.fresh_isBuilder 200 5 w, by go_grown, by simp⟩
  case round =>
    obtain ⟨j, rfl, hj, HT, hI, hB, hz⟩ := hrel
    have hj0 : (0 : Int) ≤ (j : Int) := Int.natCast_nonneg _
    have HI := Lib.hid hI
    clear hI
    by_cases hjn : j < n
    · have hj1 : (j : Int) < (n : Int) := by omega
      have hjl : j < l.length := by have := HN.out; omega
      obtain ⟨b, off, rfl, hb, t0, t1, t2, t3⟩ := SlAt.cells4 hs j hjl
      have q0 := (cell_below hB hb _).trans t0
      have q1 := (cell_below hB hb _).trans t1
      have q2 := (cell_below hB hb _).trans t2
      have q3 := (cell_below hB hb _).trans t3
      have hW := hf _ (List.getElem_mem hjl)
      have hst := Lib.hid (textU_step hjl)
      have htl := textU_len60 (l.take j) HT.out
      rw [List.length_take] at htl
      have HTK := Lib.hid (show l.take (j + 1) = l.take j ++ [l[j]] from List.take_succ_eq_append_getElem hjl)
      have HST := Lib.hid (fun hc : ¬ (l[j]).check = 0 => textAcc_at hjl (fun u hu => (HT.out u hu).check) hc [])
      clear t0 t1 t2 t3
      generalize l[j] = u at *
      have HC := Lib.hid (fun W => chk u.kind u.key u.val u.delta hW.1 hW.2 W)
      rw [show Upd.mk u.kind u.key u.val u.delta = u from rfl] at HC
      by_cases hck : u.check = 0
      · have hT : Okay u := ⟨hW, hck⟩
        have hbl := bytes_60 hT
        have HOK := Lib.hid (show ∀ x ∈ l.take (j + 1), Okay x from by rw [HTK.out]; exact fun x hx => (List.mem_append.1 hx).elim (HT.out x) (fun e => by rw [List.mem_singleton.1 e]; exact hT))
        rw [hck] at HC
        have HBY := Lib.hid (fun W => bytes_ok u.kind u.key u.val u.delta hT W)
        rw [show (Upd.mk u.kind u.key u.val u.delta).bytes = u.bytes from rfl] at HBY
        generalize u.bytes = UB at *
        clear hT hck hW HST HTK
        go_wp2_with fail
        refine (thread (HC.out _) wr.heap.size wr (by go_grown) (by go_grown)).mono ?_
        rintro e w1 ⟨rfl, hX1, hk1, -, -, hz1⟩
        have e0 : w1.cell? ⟨wr.heap.size, 0, none⟩ = some (.int .u8 u.kind) := (hk1 wr.heap.size 0 (by simp)).trans (by simp)
        have e1 : w1.cell? ⟨wr.heap.size, 1, none⟩ = some (.string (S u.key)) := (hk1 wr.heap.size 1 (by simp)).trans (by simp)
        have e2 : w1.cell? ⟨wr.heap.size, 2, none⟩ = some (.string (S u.val)) := (hk1 wr.heap.size 2 (by simp)).trans (by simp)
        have e3 : w1.cell? ⟨wr.heap.size, 3, none⟩ = some (.int .u64 u.delta) := (hk1 wr.heap.size 3 (by simp)).trans (by simp)
        clear hk1
        go_wp2_with fail
        refine (thread (HBY.out _) wr.heap.size wr hX1 hz1).mono ?_
        rintro e w2 ⟨rfl, hX2, -, -, -, hz2⟩
        have HI2 := Lib.hid (HI.out.on hX2)
        have hB2 := hB.trans (hX2.mono hB.size)
        have HW := Lib.hid (bld_write w.heap.size w.heap.size _ (S UB) w2 HI2.out (by rw [Lib.byteCells_length, S_size]; omega) hB2.size)
        clear HI HC HBY hX1 hX2 e0 e1 e2 e3 htl hbl
        go_wp2_with fail
        refine (HW.out).mono ?_
        rintro e w3 ⟨rfl, hI3, hX3⟩
        rw [strCells_S, ← byteCells_app, ← hst.out] at hI3
        have hB3 := hB2.trans hX3
        have hz3 : w.heap.size < w3.heap.size := by have := hX3.size; omega
        clear HW
        go_wp2_with fail
        go_roundw
        (case rel => exact (⟨j + 1, by go_num, by omega, HOK, hI3, hB3, hz3⟩))
        (case measure => first | (simp [intOf]; done) | (simp [intOf]; omega))
      · have HS := Lib.hid (HST.out hck)
        clear HST HTK hst
        go_wp2_with fail
        refine (thread (HC.out _) wr.heap.size wr (by go_grown) (by go_grown)).mono ?_
        rintro e w1 ⟨rfl, hX1, hk1, -, -, hz1⟩
        have hck' : ¬ ((u.check : Nat) : Int) = 0 := by omega
        have hBX := hB.trans (hX1.mono hB.size)
        clear HC hk1 hX1
        go_wp2_with fail
        go_ret2
        exact ⟨by rw [HS.out]; rfl, hBX⟩
    · obtain rfl : j = n := by omega
      have hta : l.take j = l := by rw [HN.out, List.take_length]
      rw [hta] at HI HT
      have HTL := HT
      clear hta
      go_wp2_with fail
      refine (bld_string w.heap.size w.heap.size (textU l) wr HI.out (by omega)).mono ?_
      rintro e w1 ⟨rfl, hX1⟩
      go_wp2_with fail
      go_ret2
      exact ⟨by rw [textAcc_ok l [] (fun u hu => (HTL.out u hu).check)]; rfl, hB.trans hX1⟩

set_option maxRecDepth 100000 in
set_option maxHeartbeats 1000000 in
theorem bufText_gen (a : Option Addr) (n c : Nat) (l : List Upd) (w : World) (hn : n = l.length) (hs : SlAt Upd.cells 4 w a l) (hl : l.length ≤ 10000) (hf : ∀ u ∈ l, u.Wf) :
    Calls Tryz.prog 138 #[.agg #[.slice a n c]] w fun e w' => e = .returned (.tuple #[.string (S (textAcc [] l).1), .int .i64 (textAcc [] l).2]) ∧ Below w.heap.size w w' := by
  have HS := Lib.hid hs
  have HT := Lib.hid (fun W h => recText_gen a n c l W hn h hl hf)
  clear hs hn hf hl
  go_enter Tryz.func138, Tryz.ntmps138
  go_wp2_with fail
  refine (thread (HT.out _ (HS.out.kept (B := w.heap.size) (by go_grown) (Nat.le_refl _))) w.heap.size w (by go_grown) (by go_grown)).mono ?_
  rintro e w1 ⟨rfl, hX1, -, -, -, hz1⟩
  go_wp2_with fail
  go_ret2
  exact ⟨rfl, hX1⟩

end Go.Proofs.YtafciefjlkdecaaGreat
