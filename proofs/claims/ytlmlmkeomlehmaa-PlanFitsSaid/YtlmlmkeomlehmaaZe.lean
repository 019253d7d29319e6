/-
  The walks of (rec.Update).bytes, rec.Text and (buf.Buffer).Text.
  What a text with its length ahead leaves.
  The updates of bytes: plain laws, no program in sight.
  The walk of rec.first.
  The walk of rec.Parse.
  The walks of the document's Get of a number, and of its On of a value.
-/
import Derived.Test.YtlmlmkeomlehmaaZd
import Derived.Test.YtlmlmkeomlehmaaZa
import Derived.Test.YtlmlmkeomlehmaaZb
import Derived.Test.YtlmlmkeomlehmaaZc
import Derived.BigRegion
import Derived.Deep.RegionLawGrows
import Derived.Deep.DeepCutAuto
import Derived.Deep.CutBlock
import Derived.BigQuiet
import Derived.Deep.DrawnRows
namespace Go.Proofs.Ytlmlmkeomlehmaa
open Go.RowKit
attribute [local go_sem ↓] Go.wp_at_zero Go.wp_at_succ

/-- An update's bytes, put together. -/
theorem bytes_put (u : Upd) (h : u.kind = 1) : u.bytes = [UInt8.ofNat u.kind] ++ joinT u.key ++ joinT u.val := by
  unfold Upd.bytes joinT; rw [if_pos h, if_neg (by omega)]; simp
theorem bytes_del (u : Upd) (h : u.kind = 2) : u.bytes = [UInt8.ofNat u.kind] ++ joinT u.key := by
  unfold Upd.bytes joinT; rw [if_neg (by omega), if_neg (by omega)]; simp
theorem bytes_add (u : Upd) (h : u.kind = 3) : u.bytes = [UInt8.ofNat u.kind] ++ joinT u.key ++ le u.delta 8 := by
  unfold Upd.bytes joinT; rw [if_neg (by omega), if_pos h]; simp

theorem intsW_lies (w : World) (b : Nat) (hb : w.heap.size = b) (c : Array Value) (e : TypeId) (ps : List (Nat × Nat)) (hc : c.toList = ps.map fun p => .int .i64 p.1) : IntsW (w.alloc (.cells c e (0, 0))) (some ⟨b, 0, none⟩) ps := by
  subst hb
  exact intsW_new w c e (0, 0) ps hc
theorem numsW_lies (w : World) (b : Nat) (hb : w.heap.size = b) (c : Array Value) (e : TypeId) (ps : List (Nat × Nat)) (hc : c.toList = ps.map fun p => .int .u64 p.2) : NumsW (w.alloc (.cells c e (0, 0))) (some ⟨b, 0, none⟩) ps := by
  subst hb
  exact numsW_new w c e (0, 0) ps hc
set_option maxRecDepth 100000 in
set_option maxHeartbeats 4000000 in
theorem bytes_any (k : Nat) (key val : List UInt8) (d : Nat) (hu : Tm ⟨k, key, val, d⟩) (w : World) :
    Calls Try.prog 122 #[.agg #[.int .u8 k, .string (S key), .string (S val), .int .u64 d]] w fun e w' => e = .returned (.string (S (Upd.mk k key val d).bytes)) ∧ Below w.heap.size w w' := by
  have hkl : key.length ≤ 3 := hu.klen
  have hvl : val.length ≤ 20 := hu.vlen
  have hd : d < 18446744073709551616 := hu.wf.2
  have hkk := hu.kind
  have hb1 := bytes_put ⟨k, key, val, d⟩
  have hb2 := bytes_del ⟨k, key, val, d⟩
  have hb3 := bytes_add ⟨k, key, val, d⟩
  have hcv := fun w n c => run_str1 (P := Try.prog) 54 9 5 Try.underlying54 Try.underlying5 Try.underlying9 w n c
  have HJK := Lib.hid (fun W => lendJoin_any key (by omega) W)
  have HJV := Lib.hid (fun W => lendJoin_any val (by omega) W)
  dsimp only at hkk hb1 hb2 hb3
  generalize (Upd.mk k key val d).bytes = B at *
  have hJK := joinT_len key
  have hJV := joinT_len val
  generalize joinT key = JK at *
  generalize joinT val = JV at *
  have hJKl : JK.length ≤ 4 := by omega
  have hJVl : JV.length ≤ 21 := by omega
  clear hu hkl hvl hJK hJV
  rcases hkk with rfl | rfl | rfl
  · have HB := Lib.hid (hb1 rfl)
    clear hb1 hb2 hb3
    go_enter Try.func122, Try.ntmps122
    go_wp2_with fail
    refine (thread (HJK.out _) _ _ (Below.refl _ _) (Nat.le_refl _)).mono ?_
    rintro e w1 ⟨rfl, hX1, hk1, -, -, hz1⟩
    have c0 : w1.cell? ⟨w.heap.size, 0, none⟩ = some (.int .u8 1) := (hk1 w.heap.size 0 (by simp)).trans (by simp)
    have c2 : w1.cell? ⟨w.heap.size, 2, none⟩ = some (.string (S val)) := (hk1 w.heap.size 2 (by simp)).trans (by simp)
    have HB1 := Lib.hid (show Below w.heap.size w w1 from Below.trans (by go_grown) (hX1.mono (by simp)))
    have d0 := cell_past (.cells #[.int .u8 1] 5) c0
    have d2 := cell_past (.cells #[.int .u8 1] 5) c2
    have hzz := HB1.out.size
    clear hk1 hX1 hz1
    go_wp2_with fail
    refine (thread (HJV.out _) w1.heap.size w1 (by go_grown) (by go_grown)).mono ?_
    rintro e w2 ⟨rfl, hX2, -, -, -, hz2⟩
    have hB2 := HB1.out.trans (hX2.mono hzz)
    go_wp2_with fail
    go_ret
    exact ⟨ret_val (by rw [HB.out]; simp), hB2⟩
  · have HB := Lib.hid (hb2 rfl)
    clear hb1 hb2 hb3
    go_enter Try.func122, Try.ntmps122
    go_wp2_with fail
    refine (thread (HJK.out _) _ _ (Below.refl _ _) (Nat.le_refl _)).mono ?_
    rintro e w1 ⟨rfl, hX1, hk1, -, -, hz1⟩
    have c0 : w1.cell? ⟨w.heap.size, 0, none⟩ = some (.int .u8 2) := (hk1 w.heap.size 0 (by simp)).trans (by simp)
    have HB1 := Lib.hid (show Below w.heap.size w w1 from Below.trans (by go_grown) (hX1.mono (by simp)))
    have d0 := cell_past (.cells #[.int .u8 2] 5) c0
    have hzz := HB1.out.size
    clear hk1 hX1 hz1
    go_wp2_with fail
    go_ret
    exact ⟨ret_val (by rw [HB.out]; simp), HB1.out.alloc hzz _⟩
  · have HB := Lib.hid (hb3 rfl)
    clear hb1 hb2 hb3
    go_enter Try.func122, Try.ntmps122
    go_wp2_with fail
    refine (thread (HJK.out _) _ _ (Below.refl _ _) (Nat.le_refl _)).mono ?_
    rintro e w1 ⟨rfl, hX1, hk1, -, -, hz1⟩
    have c0 : w1.cell? ⟨w.heap.size, 0, none⟩ = some (.int .u8 3) := (hk1 w.heap.size 0 (by simp)).trans (by simp)
    have c3 : w1.cell? ⟨w.heap.size, 3, none⟩ = some (.int .u64 d) := (hk1 w.heap.size 3 (by simp)).trans (by simp)
    have HB1 := Lib.hid (show Below w.heap.size w w1 from Below.trans (by go_grown) (hX1.mono (by simp)))
    have d0 := cell_past (.cells #[.int .u8 3] 5) c0
    have d3 := cell_past (.cells #[.int .i64 8] 3) (cell_past (.cells #[.int .u8 3] 5) c3)
    have hzz := HB1.out.size
    have hI := (intsW_lies (w1.alloc (.cells #[.int .u8 3] 5)) (w1.heap.size + 1) (by simp) #[.int .i64 8] 3 [(8, d)] rfl).kept (Below.alloc (Below.refl _ _) (Nat.le_refl _) (.cells #[.int .u64 d] 47)) (Nat.le_refl _)
    have hN := numsW_lies ((w1.alloc (.cells #[.int .u8 3] 5)).alloc (.cells #[.int .i64 8] 3)) (w1.heap.size + 1 + 1) (by simp) #[.int .u64 d] 47 [(8, d)] rfl
    have hwr := write_fit _ _ 1 1 [(8, d)] _ hI hN (wide1 8 d (by decide) (by decide)) (fun p hp => by rw [List.mem_singleton] at hp; rw [hp]; exact hd) (by simp)
    have hwt : wtext [(8, d)] = le d 8 := by simp [wtext]
    rw [hwt] at hwr
    have HWR := Lib.hid hwr
    clear hk1 hX1 hz1 hwr hI hN hwt
    go_wp2_with fail
    refine (thread HWR.out w1.heap.size w1 (by go_grown) (by go_grown)).mono ?_
    rintro e w2 ⟨rfl, hX2, -, -, -, hz2⟩
    have hB2 := HB1.out.trans (hX2.mono hzz)
    go_wp2_with fail
    go_ret
    exact ⟨ret_val (by rw [HB.out]; simp), hB2⟩

/-- The bytes of updates. -/
def textU (l : List Upd) : List UInt8 := l.flatMap Upd.bytes
theorem textU_acc : ∀ (l : List Upd) (acc : List UInt8), (∀ u ∈ l, Tm u) → textAcc acc l = (acc ++ textU l, 0)
  | [], acc, _ => by simp [textAcc, textU]
  | u :: l, acc, h => by
    unfold textAcc
    rw [if_pos (h u (List.mem_cons_self ..)).check, textU_acc l _ (fun x hx => h x (List.mem_cons_of_mem _ hx))]
    simp [textU]
theorem textU_step {l : List Upd} {i : Nat} (hi : i < l.length) : textU (l.take (i + 1)) = textU (l.take i) ++ (l[i]).bytes := by
  rw [List.take_succ_eq_append_getElem hi]; simp only [textU, List.flatMap_append, List.flatMap_cons, List.flatMap_nil, List.append_nil]
theorem bytes_40 {u : Upd} (h : Tm u) : u.bytes.length ≤ 40 := by
  have h2 := h.klen
  have h3 := h.vlen
  unfold Upd.bytes
  simp only [List.length_append, List.length_cons, List.length_nil]
  split <;> split <;> simp <;> omega
theorem textU_len : ∀ l : List Upd, (∀ u ∈ l, Tm u) → (textU l).length ≤ 40 * l.length
  | [], _ => by simp [textU]
  | u :: l, h => by
    have h1 := textU_len l (fun x hx => h x (List.mem_cons_of_mem _ hx))
    have h2 := bytes_40 (h u (List.mem_cons_self ..))
    have h3 : (textU (u :: l)).length = u.bytes.length + (textU l).length := by simp [textU]
    rw [h3, List.length_cons]; omega

set_option maxRecDepth 100000 in
set_option maxHeartbeats 4000000 in
theorem recText_any (a : Option Addr) (n c : Nat) (l : List Upd) (w : World) (hn : n = l.length) (hs : SlAt Upd.cells 4 w a l) (hl : l.length ≤ 10000) (hf : ∀ u ∈ l, Tm u) :
    Calls Try.prog 89 #[.slice a n c] w fun e w' => e = .returned (.tuple #[.string (S (textU l)), .int .i64 0]) ∧ Below w.heap.size w w' := by
  have HN := Lib.hid hn
  clear hn
  go_enter Try.func89, Try.ntmps89
  go_wp2_with fail
  go_loopw [10] (fun i wr => ∃ j : Nat, i = .int .i64 j ∧ j ≤ n ∧ IsB w.heap.size w.heap.size (Lib.byteCells (textU (l.take j))) wr ∧ Below w.heap.size w wr ∧ w.heap.size < wr.heap.size) (fun i _ => n - (intOf i).toNat)
  case atStart => exact ⟨0, rfl, Nat.zero_le _, by simpa [textU, Lib.byteCells] using Lib.fresh_isBuilder 116 5 w, by go_grown, by simp⟩
  case round =>
    obtain ⟨j, rfl, hj, hI, hB, hz⟩ := hrel
    have hj0 : (0 : Int) ≤ (j : Int) := Int.natCast_nonneg _
    have HI := Lib.hid hI
    clear hI
    by_cases hjn : j < n
    · have hj1 : (j : Int) < (n : Int) := by omega
      have hjl : j < l.length := by have := HN.out; omega
      obtain ⟨b, off, rfl, hb, t0, t1, t2, t3⟩ := SlAt.cells4 hs j hjl
      have q0 := (cell_below hB hb _).trans t0
      have q1 := (cell_below hB hb _).trans t1
      have q2 := (cell_below hB hb _).trans t2
      have q3 := (cell_below hB hb _).trans t3
      have hT := hf _ (List.getElem_mem hjl)
      have hst := Lib.hid (textU_step hjl)
      have htl := textU_len (l.take j) (fun x hx => hf x (List.mem_of_mem_take hx))
      rw [List.length_take] at htl
      clear t0 t1 t2 t3
      generalize l[j] = u at *
      have hbl := bytes_40 hT
      have HC := Lib.hid (fun W => chk u.kind u.key u.val u.delta hT.wf.1 hT.wf.2 W)
      rw [show (Upd.mk u.kind u.key u.val u.delta).check = 0 from hT.check] at HC
      have HBY := Lib.hid (fun W => bytes_any u.kind u.key u.val u.delta hT W)
      rw [show (Upd.mk u.kind u.key u.val u.delta).bytes = u.bytes from rfl] at HBY
      generalize u.bytes = UB at *
      clear hT
      go_wp2_with fail
      refine (thread (HC.out _) wr.heap.size wr (by go_grown) (by go_grown)).mono ?_
      rintro e w1 ⟨rfl, hX1, hk1, -, -, hz1⟩
      have e0 : w1.cell? ⟨wr.heap.size, 0, none⟩ = some (.int .u8 u.kind) := (hk1 wr.heap.size 0 (by simp)).trans (by simp)
      have e1 : w1.cell? ⟨wr.heap.size, 1, none⟩ = some (.string (S u.key)) := (hk1 wr.heap.size 1 (by simp)).trans (by simp)
      have e2 : w1.cell? ⟨wr.heap.size, 2, none⟩ = some (.string (S u.val)) := (hk1 wr.heap.size 2 (by simp)).trans (by simp)
      have e3 : w1.cell? ⟨wr.heap.size, 3, none⟩ = some (.int .u64 u.delta) := (hk1 wr.heap.size 3 (by simp)).trans (by simp)
      clear hk1
      go_wp2_with fail
      refine (thread (HBY.out _) wr.heap.size wr hX1 hz1).mono ?_
      rintro e w2 ⟨rfl, hX2, -, -, -, hz2⟩
      have HI2 := Lib.hid (HI.out.on hX2)
      have hB2 := hB.trans (hX2.mono hB.size)
      have HW := Lib.hid (bld_write w.heap.size w.heap.size _ (S UB) w2 HI2.out (by rw [Lib.byteCells_length, S_size]; omega) hB2.size)
      clear HI HC HBY hX1 hX2 e0 e1 e2 e3 htl hbl
      go_wp2_with fail
      refine (HW.out).mono ?_
      rintro e w3 ⟨rfl, hI3, hX3⟩
      rw [strCells_S, ← byteCells_app, ← hst.out] at hI3
      have hB3 := hB2.trans hX3
      have hz3 : w.heap.size < w3.heap.size := by have := hX3.size; omega
      clear HW
      go_wp2_with fail
      go_roundw
      (case rel => exact (⟨j + 1, by go_num, by omega, hI3, hB3, hz3⟩))
      (case measure => first | (simp [intOf]; done) | (simp [intOf]; omega))
    · obtain rfl : j = n := by omega
      have hta : l.take j = l := by rw [HN.out, List.take_length]
      rw [hta] at HI
      clear hta
      go_wp2_with fail
      refine (bld_string w.heap.size w.heap.size (textU l) wr HI.out (by omega)).mono ?_
      rintro e w1 ⟨rfl, hX1⟩
      go_wp2_with fail
      go_ret2
      exact ⟨rfl, hB.trans hX1⟩

set_option maxRecDepth 100000 in
set_option maxHeartbeats 1000000 in
theorem bufText_any (a : Option Addr) (n c : Nat) (l : List Upd) (w : World) (hn : n = l.length) (hs : SlAt Upd.cells 4 w a l) (hl : l.length ≤ 10000) (hf : ∀ u ∈ l, Tm u) :
    Calls Try.prog 56 #[.agg #[.slice a n c]] w fun e w' => e = .returned (.tuple #[.string (S (textU l)), .int .i64 0]) ∧ Below w.heap.size w w' := by
  have HS := Lib.hid hs
  have HT := Lib.hid (fun W h => recText_any a n c l W hn h hl hf)
  clear hs hn hf hl
  go_enter Try.func56, Try.ntmps56
  go_wp2_with fail
  refine (thread (HT.out _ (HS.out.kept (B := w.heap.size) (by go_grown) (Nat.le_refl _))) w.heap.size w (by go_grown) (by go_grown)).mono ?_
  rintro e w1 ⟨rfl, hX1, -, -, -, hz1⟩
  go_wp2_with fail
  go_ret2
  exact ⟨rfl, hX1⟩

end Go.Proofs.Ytlmlmkeomlehmaa

namespace Go.Proofs.Ytlmlmkeomlehmaa
open Go.RowKit

theorem splitL_len (s : List UInt8) : (splitL s).2.1.length ≤ s.length ∧ ((splitL s).2.2 = true → (splitL s).2.1.length < s.length) := by
  cases s with
  | nil => simp [splitL]
  | cons b r =>
    by_cases h : r.length < b.toNat
    · simp [splitL, h]
    · simp [splitL, h]; omega
theorem splitL_fst (s : List UInt8) : (splitL s).1.length ≤ s.length := by
  cases s with
  | nil => simp [splitL]
  | cons b r =>
    by_cases h : r.length < b.toNat
    · simp [splitL, h]
    · simp [splitL, h]; omega

end Go.Proofs.Ytlmlmkeomlehmaa

namespace Go.Proofs.Ytlmlmkeomlehmaa
open Go.RowKit

/-- The update at the head of bytes whose first one is b; what is left. -/
def restU (b : UInt8) (key more : List UInt8) : Option (Upd × List UInt8) :=
  if b.toNat = 1 then (if (splitL more).2.2 then some (⟨1, key, (splitL more).1, 0⟩, (splitL more).2.1) else none)
  else if b.toNat = 3 then (if more.length < 8 then none else some (⟨3, key, [], numL (more.take 8)⟩, more.drop 8))
  else some (⟨b.toNat, key, [], 0⟩, more)
def stepU (s : List UInt8) : Option (Upd × List UInt8) :=
  match s with
  | [] => none
  | b :: r => if (splitL r).2.2 then (match restU b (splitL r).1 (splitL r).2.1 with
    | none => none
    | some (u, m) => if u.check = 0 then some (u, m) else none) else none
theorem restU_len {b : UInt8} {key more m : List UInt8} {u : Upd} (h : restU b key more = some (u, m)) : m.length ≤ more.length := by
  unfold restU at h
  have h1 := (splitL_len more).1
  split at h
  · split at h
    · simp only [Option.some.injEq, Prod.mk.injEq] at h; rw [← h.2]; exact h1
    · simp at h
  · split at h
    · split at h
      · simp at h
      · simp only [Option.some.injEq, Prod.mk.injEq] at h; rw [← h.2, List.length_drop]; omega
    · simp only [Option.some.injEq, Prod.mk.injEq] at h; rw [← h.2]; exact Nat.le_refl _
theorem stepU_len {s m : List UInt8} {u : Upd} (h : stepU s = some (u, m)) : m.length + 1 ≤ s.length := by
  unfold stepU at h
  split at h
  · simp at h
  · rename_i b r
    split at h
    · split at h
      · simp at h
      · rename_i u' m' hr
        split at h
        · simp only [Option.some.injEq, Prod.mk.injEq] at h
          have h1 := restU_len hr
          have h2 := (splitL_len r).1
          rw [h.2] at h1
          rw [List.length_cons]; omega
        · simp at h
    · simp at h
theorem numL_take (l : List UInt8) (hl : 8 ≤ l.length) : numL (l.take 8) < 18446744073709551616 := by
  have := numL_lt (l.take 8)
  rw [List.length_take, Nat.min_eq_left hl] at this
  exact this
theorem restU_wf {b : UInt8} {key more m : List UInt8} {u : Upd} (h : restU b key more = some (u, m)) : u.Wf := by
  have hb := b.toNat_lt
  unfold restU at h
  split at h
  · split at h
    · simp only [Option.some.injEq, Prod.mk.injEq] at h; rw [← h.1]; exact ⟨by show (1 : Nat) < 256; decide, by show (0 : Nat) < _; decide⟩
    · simp at h
  · split at h
    · split at h
      · simp at h
      · simp only [Option.some.injEq, Prod.mk.injEq] at h; rw [← h.1]; exact ⟨by show (3 : Nat) < 256; decide, numL_take more (by omega)⟩
    · simp only [Option.some.injEq, Prod.mk.injEq] at h; rw [← h.1]; exact ⟨hb, by show (0 : Nat) < _; decide⟩
theorem stepU_ok {s m : List UInt8} {u : Upd} (h : stepU s = some (u, m)) : u.Wf ∧ u.check = 0 := by
  unfold stepU at h
  split at h
  · simp at h
  · split at h
    · split at h
      · simp at h
      · rename_i u' m' hr
        split at h
        · rename_i hc
          simp only [Option.some.injEq, Prod.mk.injEq] at h
          rw [← h.1]
          exact ⟨restU_wf hr, hc⟩
        · simp at h
    · simp at h

def rawUN : Nat → List UInt8 → Option (List Upd)
  | 0, _ => some []
  | n + 1, s => if s = [] then some [] else match stepU s with
    | none => none
    | some (e, r) => (rawUN n r).map fun l => e :: l
theorem rawUN_same : ∀ (n m : Nat) (s : List UInt8), s.length ≤ n → s.length ≤ m → rawUN n s = rawUN m s
  | 0, 0, _, _, _ => rfl
  | 0, m + 1, s, h, _ => by
    have : s = [] := List.eq_nil_of_length_eq_zero (by omega)
    simp [rawUN, this]
  | n + 1, 0, s, _, h => by
    have : s = [] := List.eq_nil_of_length_eq_zero (by omega)
    simp [rawUN, this]
  | n + 1, m + 1, s, h, k => by
    unfold rawUN
    by_cases h0 : s = []
    · simp [h0]
    · rw [if_neg h0, if_neg h0]
      cases hs : stepU s with
      | none => rfl
      | some p =>
        obtain ⟨e, r⟩ := p
        have := stepU_len hs
        simp only
        rw [rawUN_same n m r (by omega) (by omega)]
def rawU (s : List UInt8) : Option (List Upd) := rawUN s.length s
theorem rawU_nil : rawU [] = some [] := rfl
theorem rawU_none {s : List UInt8} (h0 : s ≠ []) (h : stepU s = none) : rawU s = none := by
  unfold rawU
  cases hl : s.length with
  | zero => exact absurd (List.eq_nil_of_length_eq_zero hl) h0
  | succ n => simp [rawUN, h0, h]
theorem rawU_some {s r : List UInt8} {e : Upd} (h0 : s ≠ []) (h : stepU s = some (e, r)) : rawU s = (rawU r).map fun l => e :: l := by
  have hlt := stepU_len h
  unfold rawU
  cases hl : s.length with
  | zero => exact absurd (List.eq_nil_of_length_eq_zero hl) h0
  | succ n =>
    conv => lhs; unfold rawUN
    rw [if_neg h0, h]
    simp only
    rw [rawUN_same n r.length r (by omega) (Nat.le_refl _)]
theorem rawU_more {s0 s r : List UInt8} {acc : List Upd} {e : Upd} (h : rawU s0 = (rawU s).map fun l => acc ++ l) (h0 : s ≠ []) (k : stepU s = some (e, r)) : rawU s0 = (rawU r).map fun l => (acc ++ [e]) ++ l := by
  rw [h, rawU_some h0 k]
  cases rawU r <;> simp
theorem rawU_stop {s0 s : List UInt8} {acc : List Upd} (h : rawU s0 = (rawU s).map fun l => acc ++ l) (h0 : s ≠ []) (k : stepU s = none) : rawU s0 = none := by
  rw [h, rawU_none h0 k]; rfl
theorem rawU_end {s0 : List UInt8} {acc : List Upd} (h : rawU s0 = (rawU []).map fun l => acc ++ l) : rawU s0 = some acc := by
  rw [h, rawU_nil]; simp
theorem rawUN_all : ∀ (n : Nat) (s : List UInt8) (l : List Upd), rawUN n s = some l → l.length ≤ n ∧ ∀ u ∈ l, u.Wf ∧ u.check = 0
  | 0, _, l, h => by simp only [rawUN, Option.some.injEq] at h; rw [← h]; exact ⟨Nat.le_refl _, fun u hu => by simp at hu⟩
  | n + 1, s, l, h => by
    unfold rawUN at h
    split at h
    · simp only [Option.some.injEq] at h; rw [← h]; exact ⟨Nat.zero_le _, fun u hu => by simp at hu⟩
    · split at h
      · simp at h
      · rename_i e r hs
        cases hr : rawUN n r with
        | none => rw [hr] at h; simp at h
        | some t =>
          rw [hr] at h
          simp only [Option.map_some, Option.some.injEq] at h
          obtain ⟨h1, h2⟩ := rawUN_all n r t hr
          rw [← h]
          refine ⟨by rw [List.length_cons]; omega, fun u hu => ?_⟩
          rcases List.mem_cons.1 hu with rfl | hu
          · exact stepU_ok hs
          · exact h2 u hu

/-- Are updates by rising keys? -/
def risingB (l : List Upd) : Bool := decide (l.Pairwise fun a b => bl a.key b.key = true)
theorem risingB_iff (l : List Upd) : risingB l = true ↔ Rising Upd.key l := by
  unfold risingB Rising
  rw [decide_eq_true_iff]
/-- The updates of bytes, and the error's number. -/
def recU (s : List UInt8) : List Upd × Nat :=
  match rawU s with
  | none => ([], 4)
  | some l => (l, 0)
/-- The buffer of bytes, and the error's number. -/
def parseU (s : List UInt8) : List Upd × Nat :=
  match rawU s with
  | none => ([], 4)
  | some l => if risingB l then (l, 0) else ([], 4)
theorem recU_all (s : List UInt8) : (recU s).1.length ≤ s.length ∧ ∀ u ∈ (recU s).1, u.Wf ∧ u.check = 0 := by
  unfold recU
  split
  · exact ⟨Nat.zero_le _, fun u hu => by simp at hu⟩
  · rename_i l h
    exact rawUN_all _ _ _ h
theorem parseU_of (s : List UInt8) : parseU s = if (recU s).2 = 0 then (if risingB (recU s).1 then ((recU s).1, 0) else ([], 4)) else ([], (recU s).2) := by
  unfold parseU recU
  cases rawU s <;> simp
theorem recU_two (s : List UInt8) : (recU s).2 = 0 ∨ (recU s).2 = 4 ∧ (recU s).1 = [] := by
  unfold recU
  cases rawU s <;> simp
theorem parseU_rising (s : List UInt8) : Rising Upd.key (parseU s).1 := by
  unfold parseU
  split
  · exact List.Pairwise.nil
  · split
    · rename_i h; exact (risingB_iff _).1 h
    · exact List.Pairwise.nil
theorem parseU_all (s : List UInt8) : (parseU s).1.length ≤ s.length ∧ ∀ u ∈ (parseU s).1, u.Wf ∧ u.check = 0 := by
  have h := recU_all s
  rw [parseU_of]
  split
  · split
    · exact h
    · exact ⟨Nat.zero_le _, fun u hu => by simp at hu⟩
  · exact ⟨Nat.zero_le _, fun u hu => by simp at hu⟩

end Go.Proofs.Ytlmlmkeomlehmaa

namespace Go.Proofs.Ytlmlmkeomlehmaa
open Go.RowKit
attribute [local go_sem ↓] Go.wp_at_zero Go.wp_at_succ

/-- What rec.first tells. -/
def FirstRes : Option (Upd × List UInt8) → Ending → Prop
  | some p, e => e = .returned (.tuple #[updV p.1, .string (S p.2), .bool true])
  | none, e => ∃ (x : Upd) (y : List UInt8), e = .returned (.tuple #[updV x, .string (S y), .bool false])

theorem read_byte (aw : Option Addr) (cw : Nat) (b : UInt8) (r : List UInt8) (w : World) (hs : IntsW w aw [(1, b.toNat)]) (hr : r.length ≤ 1000000) :
    Calls Try.prog 62 #[.slice aw 1 cw, .string (S (b :: r))] w fun e w' => (∃ ao c, e = .returned (.tuple #[.slice ao 1 c, .string (S r), .bool true]) ∧ NumsW w' ao [(1, b.toNat)]) ∧ Below w.heap.size w w' := by
  have hb := b.toNat_lt
  have h := read_ok aw cw [(1, b.toNat)] r w hs (wide1 1 _ (by decide) (by decide)) (fun p hp => by rw [List.mem_singleton] at hp; rw [hp]; exact hb) (by simp) hr
  have e : wtext [(1, b.toNat)] ++ r = b :: r := by simp [wtext, le]
  rw [e] at h
  exact h
theorem read_eight (aw : Option Addr) (cw : Nat) (s : List UInt8) (w : World) (h8 : 8 ≤ s.length) (hs : IntsW w aw [(8, numL (s.take 8))]) (hr : s.length ≤ 1000000) :
    Calls Try.prog 62 #[.slice aw 1 cw, .string (S s)] w fun e w' => (∃ ao c, e = .returned (.tuple #[.slice ao 1 c, .string (S (s.drop 8)), .bool true]) ∧ NumsW w' ao [(8, numL (s.take 8))]) ∧ Below w.heap.size w w' := by
  have hl : (s.take 8).length = 8 := by rw [List.length_take]; omega
  have h := read_ok aw cw [(8, numL (s.take 8))] (s.drop 8) w hs (wide1 8 _ (by decide) (by decide)) (fun p hp => by rw [List.mem_singleton] at hp; rw [hp]; exact numL_take s h8) (by simp) (by rw [List.length_drop]; omega)
  have e : wtext [(8, numL (s.take 8))] ++ s.drop 8 = s := by
    have := le_numL (s.take 8)
    rw [hl] at this
    simp only [wtext, List.flatMap_cons, List.flatMap_nil, List.append_nil]
    rw [this, List.take_append_drop]
  rw [e] at h
  exact h

theorem intsW_at (w : World) (b : Nat) (hb : w.heap.size = b) (c : Array Value) (e : TypeId) (ps : List (Nat × Nat)) (hc : c.toList = ps.map fun p => .int .i64 p.1) : IntsW (w.alloc (.cells c e (0, 0))) (some ⟨b, 0, none⟩) ps := by
  subst hb
  exact intsW_new w c e (0, 0) ps hc

abbrev ResBox : Obj := .cells #[.int .u8 0, .string ByteArray.empty, .string ByteArray.empty, .int .u64 0] 67

/-- What the middle of rec.first leaves. -/
def RestIs : Option (Upd × List UInt8) → Upd → List UInt8 → Bool → Prop
  | some p, x, m, o => o = true ∧ x = p.1 ∧ m = p.2
  | none, _, _, o => o = false

set_option maxRecDepth 100000 in
set_option maxHeartbeats 4000000 in
theorem first_nil (w : World) :
    Calls Try.prog 124 #[.string (S [])] w fun e w' => FirstRes (stepU []) e ∧ Below w.heap.size w w' := by
  have hr := read_short (some ⟨w.heap.size + 1, 0, none⟩) 1 [(1, 0)] [] _ (intsW_at (w.alloc ResBox) _ (by simp) #[.int .i64 1] 3 [(1, 0)] rfl) (wide1 1 0 (by decide) (by decide)) (by simp) (by decide)
  go_enter Try.func124, Try.ntmps124
  go_wp2_with (go_at_call 62; refine (hr).mono ?_; rintro e w' ⟨rfl, rfl⟩)
  refine bodyPost_ret (v := .tuple #[updV ⟨0, [], [], 0⟩, .string (S []), .bool false]) (by simp [results, Try.results124, go_sem, updV]; rfl) rfl ⟨⟨_, _, rfl⟩, by go_grown⟩

set_option maxRecDepth 100000 in
set_option maxHeartbeats 8000000 in
theorem first_cons (b : UInt8) (r : List UInt8) (hl : r.length ≤ 900000) (w : World) :
    Calls Try.prog 124 #[.string (S (b :: r))] w fun e w' => FirstRes (stepU (b :: r)) e ∧ Below w.heap.size w w' := by
  have hr := read_byte (some ⟨w.heap.size + 1, 0, none⟩) 1 b r _ (intsW_at (w.alloc ResBox) _ (by simp) #[.int .i64 1] 3 [(1, b.toNat)] rfl) (by omega)
  have hb256 := b.toNat_lt
  have hs1 := fun W => split_any r (by omega) W
  unfold splitV at hs1
  have hst : stepU (b :: r) = if (splitL r).2.2 then (match restU b (splitL r).1 (splitL r).2.1 with | none => none | some (u, m) => if u.check = 0 then some (u, m) else none) else none := rfl
  have hq1 := (splitL_len r).1
  generalize splitL r = p1 at *
  obtain ⟨key, more, ok⟩ := p1
  dsimp only at hs1 hst hq1
  have HS1 := Lib.hid hs1
  have HST := Lib.hid hst
  have HR := Lib.hid hr
  clear hs1 hst hr
  go_enter Try.func124, Try.ntmps124
  go_wp2_with fail
  refine (thread HR.out (w.heap.size + 1) (w.alloc ResBox) (by go_grown) (by go_grown)).mono ?_
  rintro e w1 ⟨⟨ao, c, rfl, hN⟩, hB1, -, -, -, hz1⟩
  obtain ⟨bN, oN, rfl, hbN, hcN⟩ := hN.at (by simp)
  have hc0 := hcN 0 (by simp) 0 _ rfl
  simp only [Nat.mul_one, Nat.add_zero, List.getElem_cons_zero] at hc0
  clear hcN hN HR
  have hbm : ((b.toNat : Int) % 256) = (b.toNat : Int) := by omega
  go_wp2_with fail
  refine (thread (HS1.out _) w1.heap.size w1 (by go_grown) (by go_grown)).mono ?_
  rintro e w2 ⟨rfl, hX2, hk2, hf2, hs2, hz2⟩
  have hu1 : w1.heap.size < w2.heap.size := by simp at hs2; omega
  have hU : UAt w2 w1.heap.size ⟨b.toNat, [], [], 0⟩ := ⟨(hk2 w1.heap.size 0 (by simp)).trans (by simp), (hk2 w1.heap.size 1 (by simp)).trans (by simp; rfl), (hk2 w1.heap.size 2 (by simp)).trans (by simp; rfl), (hk2 w1.heap.size 3 (by simp)).trans (by simp), fun i => (hf2 w1.heap.size i (by simp)).trans (by simp), hu1⟩
  have hBx := hB1.trans (hX2.mono hz1)
  have hR : UAt w2 w.heap.size ⟨0, [], [], 0⟩ := UAt.on (UAt.new w 67) (hBx.mono (Nat.le_refl _)) (Nat.lt_succ_self _)
  have hB2 : Below w.heap.size w w2 := (Below.alloc (Below.refl _ w) (Nat.le_refl _) ResBox).trans (hBx.mono (Nat.le_succ _))
  have hne : w1.heap.size ≠ w.heap.size := by omega
  clear hk2 hf2 hs2 hX2 hBx hB1 hc0
  have hUk := (hU.setKey key)
  have hRk := hR.far (p := ⟨w1.heap.size, 1, none⟩) hne (.string (S key))
  have hBk := hB2.setCell (p := ⟨w1.heap.size, 1, none⟩) (by show w.heap.size ≤ w1.heap.size; omega) (.string (S key))
  have hzk : w1.heap.size < (w2.setCell ⟨w1.heap.size, 1, none⟩ (.string (S key))).heap.size := by rw [World.size_setCell]; exact hu1
  cases ok with
  | false =>
    have hst2 : stepU (b :: r) = none := HST.out.trans rfl
    have HST2 := Lib.hid hst2
    have HBK := Lib.hid hBk
    obtain ⟨r0, r1, r2, r3, rf, -⟩ := hR
    obtain ⟨-, u1, -, -, uf, -⟩ := hU
    have u1f := uf 1
    have rf0 := rf 0
    have rf1 := rf 1
    have rf2 := rf 2
    have rf3 := rf 3
    clear hst2 HST hUk hRk hzk hBk uf rf
    go_wp2_with fail
    refine bodyPost_ret (v := .tuple #[updV ⟨0, [], [], 0⟩, .string (S []), .bool false]) (by simp [results, Try.results124, go_sem, updV, r0, r1, r2, r3]; rfl) rfl ⟨?_, ?_⟩
    · rw [HST2.out]
      exact ⟨_, _, rfl⟩
    · exact ((((HBK.out).setCell (p := ⟨w.heap.size, 0, none⟩) (Nat.le_refl _) _).setCell (p := ⟨w.heap.size, 1, none⟩) (Nat.le_refl _) _).setCell (p := ⟨w.heap.size, 2, none⟩) (Nat.le_refl _) _).setCell (p := ⟨w.heap.size, 3, none⟩) (Nat.le_refl _) _
  | true =>
    have hst2 : stepU (b :: r) = (match restU b key more with | none => none | some (u, m) => if u.check = 0 then some (u, m) else none) := HST.out.trans rfl
    have HST2 := Lib.hid hst2
    obtain ⟨u0, u1, -, -, uf, -⟩ := hU
    have u1f := uf 1
    dsimp only at u0
    clear hst2 HST uf
    go_upto_region 8 with (fail)
    go_upto_block 0 with (fail)
    generalize w2.setCell ⟨w1.heap.size, 1, none⟩ (.string (S key)) = W at *
    go_cut [0, 6] (fun s t wx => ∃ (x : Upd) (m : List UInt8) (o : Bool), s = .string (S m) ∧ t = .bool o ∧ UAt wx w1.heap.size x ∧ UAt wx w.heap.size ⟨0, [], [], 0⟩ ∧ x.Wf ∧ RestIs (restU b key more) x m o ∧ Below w.heap.size w wx)
    case first =>
      have HBK := Lib.hid hBk
      have HRK := Lib.hid hRk
      have HUK := Lib.hid hUk
      obtain ⟨k0, k1, k2, k3, kf, -⟩ := hUk
      have k2f := kf 2
      have k3f := kf 3
      dsimp only at k0
      clear hBk hRk kf k1 u0 u1 u1f hB2 hR
      by_cases h1 : b.toNat = 1
      · have h1' : ((b.toNat : Int) == 1) = true := by simp [h1]
        have hre : restU b key more = (if (splitL more).2.2 then some (⟨1, key, (splitL more).1, 0⟩, (splitL more).2.1) else none) := by unfold restU; rw [if_pos h1]
        have hs2 := fun W => split_any more (by omega) W
        unfold splitV at hs2
        generalize splitL more = p2 at *
        obtain ⟨val, m2, is⟩ := p2
        dsimp only at hs2 hre
        have HS2 := Lib.hid hs2
        have HRE := Lib.hid hre
        have H1 := Lib.hid h1
        clear hs2 hre h1
        go_wp2_with fail
        refine (thread (HS2.out _) W.heap.size W (Below.refl _ _) (Nat.le_refl _)).mono ?_
        rintro e w3 ⟨rfl, hX3, hk3, hf3, -, hz3⟩
        have k2 := (hk3 w1.heap.size 2 hzk).trans k2
        have k2f := (hf3 w1.heap.size 2 hzk).trans k2f
        have hU3 := (HUK.out.on hX3 hzk)
        have hR3 := (HRK.out.on hX3 (by omega))
        have HB3 := Lib.hid (HBK.out.trans (hX3.mono (by omega)))
        have HU3 := Lib.hid (hU3.setVal val)
        have HR3 := Lib.hid (hR3.far (p := ⟨w1.heap.size, 2, none⟩) hne (.string (S val)))
        clear hU3 hR3 hX3 hk3 hf3 k0 k3 k3f
        go_wp2_with fail
        go_meet
        refine ⟨_, m2, is, rfl, rfl, HU3.out, HR3.out, ⟨hb256, by show (0 : Nat) < _; decide⟩, ?_, HB3.out.setCell (p := ⟨w1.heap.size, 2, none⟩) (by show w.heap.size ≤ w1.heap.size; omega) _⟩
        rw [HRE.out]
        cases is with
        | true => exact ⟨rfl, by simp only [H1.out], rfl⟩
        | false => exact rfl
      · have h1' : ((b.toNat : Int) == 1) = false := by simp; omega
        by_cases h3 : b.toNat = 3
        · have h3' : ((b.toNat : Int) == 3) = true := by simp [h3]
          have hre : restU b key more = (if more.length < 8 then none else some (⟨3, key, [], numL (more.take 8)⟩, more.drop 8)) := by unfold restU; rw [if_neg h1, if_pos h3]
          have H3 := Lib.hid h3
          by_cases h8 : more.length < 8
          · rw [if_pos h8] at hre
            have HRE := Lib.hid hre
            have hr := read_short (some ⟨W.heap.size, 0, none⟩) 1 [(8, 0)] more _ (intsW_at W _ rfl #[.int .i64 8] 3 [(8, 0)] rfl) (wide1 8 0 (by decide) (by decide)) (by simp) (by simpa [sumW] using h8)
            have HRD := Lib.hid hr
            clear hre hr h8 h3 h1
            go_wp2_with (go_at_call 62; refine (HRD.out).mono ?_; rintro e w' ⟨rfl, rfl⟩)
            go_meet
            exact ⟨_, [], false, rfl, rfl, HUK.out.on ((Below.refl _ W).alloc (Nat.le_refl _) _) hzk, HRK.out.on ((Below.refl _ W).alloc (Nat.le_refl _) _) (by omega), ⟨hb256, by show (0 : Nat) < _; decide⟩, by rw [HRE.out]; exact rfl, HBK.out.alloc (by omega) _⟩
          · rw [if_neg h8] at hre
            have HRE := Lib.hid hre
            have hr := read_eight (some ⟨W.heap.size, 0, none⟩) 1 more _ (by omega) (intsW_at W _ rfl #[.int .i64 8] 3 [(8, numL (more.take 8))] rfl) (by omega)
            have HN8 := Lib.hid (numL_take more (by omega))
            generalize numL (more.take 8) = D at *
            generalize more.drop 8 = rest at *
            have HRD := Lib.hid hr
            clear hre hr h3 h1
            go_wp2_with fail
            refine (thread HRD.out W.heap.size W (by go_grown) (by go_grown)).mono ?_
            rintro e w3 ⟨⟨ao3, c3', rfl, hN⟩, hX3, -, -, -, hz3⟩
            obtain ⟨b3, o3, rfl, hb3, hcN⟩ := hN.at (by simp)
            have n0 := hcN 0 (by simp) 0 _ rfl
            simp only [Nat.mul_one, Nat.add_zero, List.getElem_cons_zero] at n0
            have hU3 := (HUK.out.on hX3 hzk)
            have hR3 := (HRK.out.on hX3 (by omega))
            have k3 := hU3.c3
            have k3f := hU3.free 3
            dsimp only at k3
            have HB3 := Lib.hid (HBK.out.trans (hX3.mono (by omega)))
            have HU3 := Lib.hid (hU3.setDelta D)
            have HR3 := Lib.hid (hR3.far (p := ⟨w1.heap.size, 3, none⟩) hne (.int .u64 D))
            clear hU3 hR3 hX3 hcN hN k0 k2 k2f
            go_wp2_with fail
            go_meet
            refine ⟨_, rest, true, rfl, rfl, HU3.out, HR3.out, ⟨hb256, HN8.out⟩, ?_, HB3.out.setCell (p := ⟨w1.heap.size, 3, none⟩) (by show w.heap.size ≤ w1.heap.size; omega) _⟩
            rw [HRE.out]
            exact ⟨rfl, by simp only [H3.out], rfl⟩
        · have h3' : ((b.toNat : Int) == 3) = false := by simp; omega
          have HRE := Lib.hid (show restU b key more = some (⟨b.toNat, key, [], 0⟩, more) by unfold restU; rw [if_neg h1, if_neg h3])
          go_wp2_with fail
          go_meet
          exact ⟨_, more, true, rfl, rfl, HUK.out, HRK.out, ⟨hb256, by show (0 : Nat) < _; decide⟩, by rw [HRE.out]; exact ⟨rfl, rfl, rfl⟩, HBK.out⟩
    case rest =>
      obtain ⟨x, m, o, rfl, rfl, hUx, hRx, hwf, hRI, hBx⟩ := hcut
      have HWF := Lib.hid hwf
      have HB := Lib.hid hBx
      obtain ⟨x0, x1, x2, x3, -, hxl⟩ := hUx
      obtain ⟨r0, r1, r2, r3, rf, hrl⟩ := hRx
      have rf0 := rf 0
      have rf1 := rf 1
      have rf2 := rf 2
      have rf3 := rf 3
      dsimp only at r0 r1 r2 r3
      clear hUk hRk hBk hzk u0 u1 u1f rf hbm
      cases o with
      | false =>
        have hst3 : stepU (b :: r) = none := by
          rw [HST2.out]
          cases hr : restU b key more with
          | none => rfl
          | some p => rw [hr] at hRI; exact absurd hRI.1 (by simp)
        have HST3 := Lib.hid hst3
        clear hst3 hRI hwf hBx
        go_wp2_with fail
        go_big_region
        all_goals
          go_wp2_with fail
          refine bodyPost_ret (v := .tuple #[updV x, .string (S m), .bool false]) (by simp [results, Try.results124, go_sem, updV, r0, r1, r2, r3]) rfl ⟨?_, ?_⟩
          · rw [HST3.out]
            exact ⟨_, _, rfl⟩
          · first | exact ((((HB.out).setCell (p := ⟨w.heap.size, 0, none⟩) (Nat.le_refl _) _).setCell (p := ⟨w.heap.size, 1, none⟩) (Nat.le_refl _) _).setCell (p := ⟨w.heap.size, 2, none⟩) (Nat.le_refl _) _).setCell (p := ⟨w.heap.size, 3, none⟩) (Nat.le_refl _) _ | exact below_drew' (((((HB.out).setCell (p := ⟨w.heap.size, 0, none⟩) (Nat.le_refl _) _).setCell (p := ⟨w.heap.size, 1, none⟩) (Nat.le_refl _) _).setCell (p := ⟨w.heap.size, 2, none⟩) (Nat.le_refl _) _).setCell (p := ⟨w.heap.size, 3, none⟩) (Nat.le_refl _) _)
      | true =>
        have hst3 : stepU (b :: r) = if (Upd.mk x.kind x.key x.val x.delta).check = 0 then some (x, m) else none := by
          rw [HST2.out]
          cases hr : restU b key more with
          | none => rw [hr] at hRI; exact absurd hRI (by simp [RestIs])
          | some p => rw [hr] at hRI; obtain ⟨-, rfl, rfl⟩ := hRI; rfl
        have HST3 := Lib.hid hst3
        have HCK := Lib.hid (fun W => chk x.kind x.key x.val x.delta HWF.out.1 HWF.out.2 W)
        generalize (Upd.mk x.kind x.key x.val x.delta).check = ck at *
        clear hRI hwf hBx
        by_cases hc0 : ck = 0
        · have hcb : ((ck : Int) == 0) = true := by simp [hc0]
          have HST4 := Lib.hid (show stepU (b :: r) = some (x, m) by rw [hst3, if_pos hc0])
          clear hst3 HST3 hc0
          go_wp2_with fail
          go_region_law (first | (go_simp; go_at_call 114; refine (HCK.out _).mono ?_; rintro e w4 ⟨rfl, hb4⟩; have y0 := kept_cell hb4 (cell_drew x0); have y1 := kept_cell hb4 (cell_drew x1); have y2 := kept_cell hb4 (cell_drew x2); have y3 := kept_cell hb4 (cell_drew x3); have z0 := kept_cell hb4 (cell_drew r0); have z1 := kept_cell hb4 (cell_drew r1); have z2 := kept_cell hb4 (cell_drew r2); have z3 := kept_cell hb4 (cell_drew r3); have zf0 := (hb4.frozen (p := ⟨w.heap.size, 0, none⟩) hrl).trans rf0; have zf1 := (hb4.frozen (p := ⟨w.heap.size, 1, none⟩) hrl).trans rf1; have zf2 := (hb4.frozen (p := ⟨w.heap.size, 2, none⟩) hrl).trans rf2; have zf3 := (hb4.frozen (p := ⟨w.heap.size, 3, none⟩) hrl).trans rf3; have hB4 := (below_drew' HB.out).trans (hb4.mono HB.out.size); clear hb4))
          all_goals
            go_wp2_with fail
            refine bodyPost_ret (v := .tuple #[updV x, .string (S m), .bool true]) (by simp [results, Try.results124, go_sem, updV, z0, z1, z2, z3]) rfl ⟨?_, ?_⟩
            · rw [HST4.out]
              exact rfl
            · exact (((hB4.setCell (p := ⟨w.heap.size, 0, none⟩) (Nat.le_refl _) _).setCell (p := ⟨w.heap.size, 1, none⟩) (Nat.le_refl _) _).setCell (p := ⟨w.heap.size, 2, none⟩) (Nat.le_refl _) _).setCell (p := ⟨w.heap.size, 3, none⟩) (Nat.le_refl _) _
        · have hcb : ((ck : Int) == 0) = false := by simp; omega
          have HST4 := Lib.hid (show stepU (b :: r) = none by rw [hst3, if_neg hc0])
          clear hst3 HST3 hc0
          go_wp2_with fail
          go_region_law (first | (go_simp; go_at_call 114; refine (HCK.out _).mono ?_; rintro e w4 ⟨rfl, hb4⟩; have y0 := kept_cell hb4 (cell_drew x0); have y1 := kept_cell hb4 (cell_drew x1); have y2 := kept_cell hb4 (cell_drew x2); have y3 := kept_cell hb4 (cell_drew x3); have z0 := kept_cell hb4 (cell_drew r0); have z1 := kept_cell hb4 (cell_drew r1); have z2 := kept_cell hb4 (cell_drew r2); have z3 := kept_cell hb4 (cell_drew r3); have zf0 := (hb4.frozen (p := ⟨w.heap.size, 0, none⟩) hrl).trans rf0; have zf1 := (hb4.frozen (p := ⟨w.heap.size, 1, none⟩) hrl).trans rf1; have zf2 := (hb4.frozen (p := ⟨w.heap.size, 2, none⟩) hrl).trans rf2; have zf3 := (hb4.frozen (p := ⟨w.heap.size, 3, none⟩) hrl).trans rf3; have hB4 := (below_drew' HB.out).trans (hb4.mono HB.out.size); clear hb4))
          all_goals
            go_wp2_with fail
            refine bodyPost_ret (v := .tuple #[updV x, .string (S m), .bool false]) (by simp [results, Try.results124, go_sem, updV, z0, z1, z2, z3]) rfl ⟨?_, ?_⟩
            · rw [HST4.out]
              exact ⟨_, _, rfl⟩
            · exact (((hB4.setCell (p := ⟨w.heap.size, 0, none⟩) (Nat.le_refl _) _).setCell (p := ⟨w.heap.size, 1, none⟩) (Nat.le_refl _) _).setCell (p := ⟨w.heap.size, 2, none⟩) (Nat.le_refl _) _).setCell (p := ⟨w.heap.size, 3, none⟩) (Nat.le_refl _) _

/-- The update at the head of bytes. -/
theorem first_any (s : List UInt8) (hl : s.length ≤ 900000) (w : World) :
    Calls Try.prog 124 #[.string (S s)] w fun e w' => FirstRes (stepU s) e ∧ Below w.heap.size w w' := by
  cases s with
  | nil => exact first_nil w
  | cons b r => exact first_cons b r (by rw [List.length_cons] at hl; omega) w

end Go.Proofs.Ytlmlmkeomlehmaa

namespace Go.Proofs.Ytlmlmkeomlehmaa
open Go.RowKit
attribute [local go_sem ↓] Go.wp_at_zero Go.wp_at_succ

/-- Updates, and an error's number. -/
def RecRes (B : Nat) (E : TypeId) (p : List Upd × Nat) (e : Ending) (w' : World) : Prop :=
  ∃ a c, e = .returned (.tuple #[.slice a p.1.length c, .int .i64 p.2]) ∧ w'.ownsRow B E 4 (.slice a p.1.length c) p.1.length (cellsU p.1)
theorem RecRes.none (B : Nat) (E : TypeId) (n : Nat) (w' : World) (e : Ending) (he : e = .returned (.tuple #[.slice none 0 0, .int .i64 n])) : RecRes B E ([], n) e w' := ⟨Option.none, 0, he, World.ownsRow_nil _ _ _ _⟩
theorem recU_none {s : List UInt8} (h : rawU s = none) : recU s = ([], 4) := by simp [recU, h]
theorem recU_some {s : List UInt8} {l : List Upd} (h : rawU s = some l) : recU s = (l, 0) := by simp [recU, h]
theorem cell_four_at' (w : World) (b : Nat) (hb : w.heap.size = b) (x y z u : Value) (t : TypeId) : ∀ j v, [x, y, z, u][j]? = some v → (w.alloc (.cells #[x, y, z, u] t)).cell? ((⟨b, 0, none⟩ : Addr).add j) = some v := by
  subst hb
  exact cell_four_new w x y z u t

set_option maxRecDepth 100000 in
set_option maxHeartbeats 4000000 in
theorem recParse_any (s0 : List UInt8) (hl : s0.length ≤ 900000) (w : World) :
    Calls Try.prog 96 #[.string (S s0)] w fun e w' => RecRes w.heap.size 67 (recU s0) e w' ∧ Below w.heap.size w w' := by
  obtain ⟨i0, hi, iz0, iz1, iz2⟩ := info_parts infoU
  have HE0 := Lib.hid (fun h : rawU s0 = none => recU_none h)
  have HE1 := Lib.hid (fun (l : List Upd) (h : rawU s0 = some l) => recU_some h)
  generalize recU s0 = P at *
  go_enter Try.func96, Try.ntmps96
  go_wp2_with fail
  go_loopw [0, 4] (fun s v wr => ∃ (t : List UInt8) (acc : List Upd), s = .string (S t) ∧ t.length + acc.length ≤ s0.length ∧ Hid (rawU s0 = (rawU t).map fun l => acc ++ l) ∧ wr.ownsRow w.heap.size 67 4 v acc.length (cellsU acc) ∧ Below w.heap.size w wr) (fun s _ _ => match s with | .string x => x.size | _ => 0)
  case atStart => exact ⟨s0, [], rfl, by simp, Lib.hid (by simp), World.ownsRow_nil _ _ _ _, by go_grown⟩
  case round =>
    obtain ⟨t, acc, rfl, hlen, hR, hown, hB⟩ := hrel
    obtain ⟨av, ac, ea⟩ := own_form hown
    subst ea
    have HO := Lib.hid hown
    cases t with
    | nil =>
      have HP := Lib.hid (HE1.out acc (rawU_end hR.out))
      clear hown hR
      go_wp2_with fail
      refine bodyPost_ret (v := .tuple #[.slice av acc.length ac, .int .i64 0]) (by simp [results, Try.results96, go_sem]) rfl ⟨?_, hB⟩
      rw [HP.out]
      exact ⟨av, ac, rfl, HO.out⟩
    | cons b r =>
      have hl0 : (S (b :: r)).size = r.length + 1 := by rw [S_size]; rfl
      rw [List.length_cons] at hlen
      have hfa := fun W => first_any (b :: r) (by rw [List.length_cons]; omega) W
      clear hown
      cases hst : stepU (b :: r) with
      | none =>
        rw [hst] at hfa
        have HFA := Lib.hid hfa
        have HP := Lib.hid (HE0.out (rawU_stop hR.out (by simp) hst))
        clear hfa hst hR
        go_wp2_with fail
        refine (thread (HFA.out _) wr.heap.size wr (by go_grown) (by go_grown)).mono ?_
        rintro e w1 ⟨⟨x, y, rfl⟩, hX1, -, -, -, hz1⟩
        have hB1 := hB.trans (hX1.mono hB.size)
        have hz2 : w.heap.size ≤ w1.heap.size := hB1.size
        simp only [updV]
        clear hX1
        go_wp2_with fail
        refine bodyPost_ret (v := .tuple #[.slice none 0 0, .int .i64 4]) (by simp [results, Try.results96, go_sem]) rfl ⟨?_, hB1.alloc hz2 _⟩
        rw [HP.out]
        exact RecRes.none _ _ _ _ _ rfl
      | some p =>
        obtain ⟨u, m⟩ := p
        rw [hst] at hfa
        have HFA := Lib.hid (fun W => (hfa W).mono (fun e w' (h : FirstRes (some (u, m)) e ∧ Below W.heap.size W w') => (⟨h.1, h.2⟩ : e = .returned (.tuple #[.agg #[.int .u8 u.kind, .string (S u.key), .string (S u.val), .int .u64 u.delta], .string (S m), .bool true]) ∧ Below W.heap.size W w')))
        have HN := Lib.hid (rawU_more hR.out (by simp) hst)
        have hml := stepU_len hst
        rw [List.length_cons] at hml
        clear hfa hst hR
        go_wp2_with fail
        refine (thread (HFA.out _) wr.heap.size wr (by go_grown) (by go_grown)).mono ?_
        rintro e w1 ⟨rfl, hX1, -, -, -, hz1⟩
        have HO1 := Lib.hid (own_below HO.out hX1)
        have hB1 := hB.trans (hX1.mono hB.size)
        have hz := hB1.size
        clear hX1 HFA
        go_wp2_with (at_builtin; go_must (refine wpList_append_own_at _ rfl _ _ 27 rfl w.heap.size 67 i0 (.agg #[.int .u8 0, .string ByteArray.empty, .string ByteArray.empty, .int .u64 0]) 4 48 Try.underlying27 hi iz0 iz1 iz2 rfl (by decide) _ acc.length _ rfl ((HO1.out.alloc _).alloc _) ⟨w1.heap.size + 1, 0, none⟩ 1 1 [.int .u8 u.kind, .string (S u.key), .string (S u.val), .int .u64 u.delta] rfl rfl (cell_four_at' _ _ (by simp) _ _ _ _ _) (four_oneCell _ _ _ _) (by unfold maxLen; omega) (by omega) (by simp; omega) ?_; intro vz wz hownz hgrowz _ _))
        go_roundw
        (case rel => exact (⟨m, acc ++ [u], rfl, by rw [List.length_append, List.length_singleton]; omega, HN, by rw [cellsU_snoc, List.length_append, List.length_singleton]; exact hownz, below_grown ((hB1.alloc hz _).alloc (by simp; omega) _) hgrowz (fun k e => (HO1.out.lt k e).1) (by simp; omega)⟩))
        (case measure => simp [S_size]; omega)

end Go.Proofs.Ytlmlmkeomlehmaa

namespace Go.Proofs.Ytlmlmkeomlehmaa
open Go.RowKit

set_option maxHeartbeats 1000000 in
theorem refGet_any (v : List UInt8) (hv : v.length ≤ 8) (w : World) :
    Calls Try.prog 98 #[.string (S v)] w fun e w' => e = .returned (.int .u64 (numL v : Nat)) ∧ Below w.heap.size w w' := by
  have hw0 : IntKind.i64.wrap ((v.length : Int) - 1) = (v.length : Int) - 1 := IntWalk.i64_in _ (by omega)
  go_enter Try.func98, Try.ntmps98
  go_wp2_with fail
  go_loopw [3, 4] (fun n i wr => ∃ j : Nat, j ≤ v.length ∧ i = .int .i64 ((j : Int) - 1) ∧ n = .int .u64 (numL (v.drop j) : Nat) ∧ Below w.heap.size w wr) (fun _ i _ => (intOf i + 1).toNat)
  case atStart => exact ⟨v.length, Nat.le_refl _, rfl, by rw [List.drop_length]; rfl, Below.refl _ _⟩
  case round =>
    obtain ⟨j, hj, rfl, rfl, hB⟩ := hrel
    rcases j with _ | q
    · rw [show ((0 : Nat) : Int) - 1 = -1 from rfl]
      go_wp2_with fail
      go_ret
      exact ⟨rfl, hB⟩
    · rw [show ((q + 1 : Nat) : Int) - 1 = (q : Int) by omega]
      have hq : q < v.length := by omega
      have hq0 : (0 : Int) ≤ (q : Int) := by omega
      have hq1 : (q : Int) < (v.length : Int) := by omega
      have hqw : IntKind.i64.wrap ((q : Int) - 1) = (q : Int) - 1 := IntWalk.i64_in _ (by omega)
      have hd : numL (v.drop q) = v[q].toNat + 256 * numL (v.drop (q + 1)) := by rw [List.drop_eq_getElem_cons hq]; rfl
      have hb : numL (v.drop q) < 18446744073709551616 := by
        have h1 := numL_lt (v.drop q)
        rw [List.length_drop] at h1
        have h2 : 256 ^ (v.length - q) ≤ 256 ^ 8 := Nat.pow_le_pow_right (by decide) (by omega)
        have h3 : (256 : Nat) ^ 8 = 18446744073709551616 := by decide
        omega
      have Hd := Lib.hid hd
      have Hb := Lib.hid hb
      clear hd hb
      go_wp2_with fail
      refine ⟨⟨q, by omega, rfl, ?_, hB⟩, by simp [intOf]⟩
      rw [Hd.out]
      have h1 := Hd.out
      have h2 := Hb.out
      generalize numL (v.drop (q + 1)) = N at *
      generalize v[q].toNat = b at *
      congr 1
      simp only [IntKind.wrap_u64]
      omega
end Go.Proofs.Ytlmlmkeomlehmaa
