/-
  The walks of the document's numbers: treenailref01.Get, treenailref14.On.
  The walk of the document's Get of entries.
  The document's On of entries: what its loop makes, and that this is what an update makes.
  The walk of the document's On of entries.
  The document's On of entries, as an update is told of a leaf.
-/
import Derived.Test.YtcjeonamebnpfaaMsgO
import Derived.Test.YtcjeonamebnpfaaRef01
import Derived.Test.YtcjeonamebnpfaaLeafG
import Derived.Test.YtcjeonamebnpfaaLeafP
import Derived.BigQuiet
import Derived.Deep.DrawnRows
namespace Go.Proofs.Ytcjeonamebnpfaa
open Go.RowKit

set_option maxHeartbeats 1000000 in
theorem refGet_any (v : List UInt8) (hv : v.length ≤ 8) (w : World) :
    Calls Try.prog 80 #[.string (S v)] w fun e w' => e = .returned (.int .u64 (numL v : Nat)) ∧ Below w.heap.size w w' := by
  have hw0 : IntKind.i64.wrap ((v.length : Int) - 1) = (v.length : Int) - 1 := IntWalk.i64_in _ (by omega)
  go_enter Try.func80, Try.ntmps80
  go_wp2_with fail
  go_loopw [3, 4] (fun n i wr => ∃ j : Nat, j ≤ v.length ∧ i = .int .i64 ((j : Int) - 1) ∧ n = .int .u64 (numL (v.drop j) : Nat) ∧ Below w.heap.size w wr) (fun _ i _ => (intOf i + 1).toNat)
  case atStart => exact ⟨v.length, Nat.le_refl _, rfl, by rw [List.drop_length]; rfl, Below.refl _ _⟩
  case round =>
    obtain ⟨j, hj, rfl, rfl, hB⟩ := hrel
    rcases j with _ | q
    · rw [show ((0 : Nat) : Int) - 1 = -1 from rfl]
      go_wp2_with fail
      go_ret
      exact ⟨rfl, hB⟩
    · rw [show ((q + 1 : Nat) : Int) - 1 = (q : Int) by omega]
      have hq : q < v.length := by omega
      have hq0 : (0 : Int) ≤ (q : Int) := by omega
      have hq1 : (q : Int) < (v.length : Int) := by omega
      have hqw : IntKind.i64.wrap ((q : Int) - 1) = (q : Int) - 1 := IntWalk.i64_in _ (by omega)
      have hd : numL (v.drop q) = v[q].toNat + 256 * numL (v.drop (q + 1)) := by rw [List.drop_eq_getElem_cons hq]; rfl
      have hb : numL (v.drop q) < 18446744073709551616 := by
        have h1 := numL_lt (v.drop q)
        rw [List.length_drop] at h1
        have h2 : 256 ^ (v.length - q) ≤ 256 ^ 8 := Nat.pow_le_pow_right (by decide) (by omega)
        have h3 : (256 : Nat) ^ 8 = 18446744073709551616 := by decide
        omega
      have Hd := Lib.hid hd
      have Hb := Lib.hid hb
      clear hd hb
      go_wp2_with fail
      refine ⟨⟨q, by omega, rfl, ?_, hB⟩, by simp [intOf]⟩
      rw [Hd.out]
      have h1 := Hd.out
      have h2 := Hb.out
      generalize numL (v.drop (q + 1)) = N at *
      generalize v[q].toNat = b at *
      congr 1
      simp only [IntKind.wrap_u64]
      omega

theorem refOn_len (v : List UInt8) (there : Bool) : (if there then v else []).length ≤ v.length := by cases there <;> simp
set_option maxRecDepth 100000 in
set_option maxHeartbeats 2000000 in
theorem refOn_any (v : List UInt8) (there : Bool) (kd : Nat) (key val : List UInt8) (dl : Nat) (hk : kd < 256) (hd : dl < 18446744073709551616) (w : World) :
    Calls Try.prog 58 #[.string (S v), .bool there, .agg #[.int .u8 kd, .string (S key), .string (S val), .int .u64 dl]] w fun e w' => e = .returned (onV v there ⟨kd, key, val, dl⟩) ∧ Below w.heap.size w w' := by
  have hkd : (kd : Int) < 256 := by omega
  by_cases h1 : kd = 1
  · subst h1
    unfold onV
    rw [onL_put _ _ _ rfl]
    go_enter Try.func58, Try.ntmps58
    go_wp2_with fail
    go_ret2
    exact ⟨rfl, by go_grown⟩
  by_cases h2 : kd = 2
  · subst h2
    unfold onV
    rw [onL_del _ _ _ rfl]
    go_enter Try.func58, Try.ntmps58
    go_wp2_with fail
    go_ret2
    exact ⟨rfl, by go_grown⟩
  have g1 : ¬ (kd : Int) = 1 := by omega
  have g2 : ¬ (kd : Int) = 2 := by omega
  have b1 : ((kd : Int) == 1) = false := by simpa using g1
  have b2 : ((kd : Int) == 2) = false := by simpa using g2
  by_cases h3 : kd = 3
  · subst h3
    clear b1 b2 g1 g2
    cases there with
    | false =>
      have hdm : dl % 18446744073709551616 = dl := Nat.mod_eq_of_lt hd
      have hput := fun w => put_any dl hd 8 (by decide) (by decide) w
      unfold onV
      rw [onL_add0 _ _ rfl]
      simp only [hdm]
      have hg : ∀ w, Calls Try.prog 80 #[.string ⟨#[]⟩] w fun e w' => e = .returned (.int .u64 0) ∧ Below w.heap.size w w' := fun w => refGet_any [] (by decide) w
      have hwd : IntKind.u64.wrap (dl : Int) = (dl : Int) := by rw [IntKind.wrap_u64]; omega
      clear hdm
      go_enter Try.func58, Try.ntmps58
      go_wp2_with fail
      refine (thread (hg _) w.heap.size w (by go_grown) (by go_grown)).mono ?_
      rintro e w1 ⟨rfl, hB1, hk1, -, -, hz1⟩
      have p3 := (hk1 w.heap.size 3 (by simp)).trans (by simp [go_sem]; rfl)
      clear hk1 hg
      go_wp2_with fail
      refine (thread (hput _) w.heap.size w (by go_grown) (by go_grown)).mono ?_
      rintro e w2 ⟨rfl, hB2, -, -, -, -⟩
      go_wp2_with fail
      go_ret2
      exact ⟨rfl, hB2⟩
    | true =>
      by_cases h8 : v.length = 8
      · have hsum := u64_sum (numL v) dl
        unfold onV
        rw [onL_add8 _ _ rfl h8]
        have hput := fun w => put_any ((numL v + dl) % 18446744073709551616) (mod64_lt _) 8 (by decide) (by decide) w
        have hg := fun w => refGet_any v (by omega) w
        have h8' : (v.length : Int) = 8 := by omega
        have h8n : ((v.length : Int) != 8) = false := by simp [h8']
        generalize (numL v + dl) % 18446744073709551616 = N at *
        generalize numL v = M at *
        clear h8'
        go_enter Try.func58, Try.ntmps58
        go_wp2_with fail
        refine (thread (hg _) w.heap.size w (by go_grown) (by go_grown)).mono ?_
        rintro e w1 ⟨rfl, hB1, hk1, -, -, hz1⟩
        have p3 := (hk1 w.heap.size 3 (by simp)).trans (by simp [go_sem]; rfl)
        clear hk1 hg
        go_wp2_with fail
        refine (thread (hput _) w.heap.size w (by go_grown) (by go_grown)).mono ?_
        rintro e w2 ⟨rfl, hB2, -, -, -, -⟩
        go_wp2_with fail
        go_ret2
        exact ⟨rfl, hB2⟩
      · unfold onV
        rw [onL_add _ _ rfl h8]
        have h8n : ((v.length : Int) != 8) = true := by simp; omega
        go_enter Try.func58, Try.ntmps58
        go_wp2_with fail
        go_ret2
        exact ⟨rfl, by go_grown⟩
  · have g3 : ¬ (kd : Int) = 3 := by omega
    have b3 : ((kd : Int) == 3) = false := by simpa using g3
    have b3' : ((kd : Int) != 3) = true := by simpa using g3
    unfold onV
    rw [onL_other _ _ _ h1 h2 h3]
    cases there with
    | false =>
      go_enter Try.func58, Try.ntmps58
      go_wp2_with fail
      go_ret2
      exact ⟨rfl, by go_grown⟩
    | true =>
      go_enter Try.func58, Try.ntmps58
      go_wp2_with fail
      go_ret2
      exact ⟨rfl, by go_grown⟩

end Go.Proofs.Ytcjeonamebnpfaa

namespace Go.Proofs.Ytcjeonamebnpfaa
open Go.RowKit

theorem lookE_cons (e : Ent) (l : List Ent) (k : List UInt8) : lookE (e :: l) k = if e.key = k then some e.val else lookE l k := by
  unfold lookE
  rw [List.find?_cons]
  by_cases h : e.key = k
  · simp [h]
  · have : (e.key == k) = false := by simpa using h
    simp [h, this]

set_option maxHeartbeats 2000000 in
theorem refEGet_any (ao : Option Addr) (c : Nat) (l : List Ent) (k : List UInt8) (w : World) (hl : l.length ≤ 1000000) (hs : SlAt Ent.cells 2 w ao l) :
    Calls Try.prog 35 #[.slice ao l.length c, .string (S k)] w fun e w' => e = .returned (valV (lookE l k)) ∧ Below w.heap.size w w' := by
  go_enter Try.func35, Try.ntmps35
  go_wp2_with fail
  go_loopw [6] (fun i wr => ∃ j : Nat, i = .int .i64 j ∧ j ≤ l.length ∧ Hid (lookE (l.drop j) k = lookE l k) ∧ Below w.heap.size w wr) (fun i _ => l.length - (intOf i).toNat)
  case atStart => exact ⟨0, rfl, Nat.zero_le _, Lib.hid rfl, Below.refl _ _⟩
  case round =>
    obtain ⟨j, rfl, hj, hlook, hB⟩ := hrel
    have hj0 : (0 : Int) ≤ (j : Int) := Int.natCast_nonneg _
    by_cases hjl : j < l.length
    · have hj1 : (j : Int) < (l.length : Int) := by omega
      obtain ⟨b, off, rfl, hb, t0, t1⟩ := SlAt.cells2 hs j hjl
      have q0 := (cell_below hB hb _).trans t0
      have q1 := (cell_below hB hb _).trans t1
      have hdr : l.drop j = l[j] :: l.drop (j + 1) := List.drop_eq_getElem_cons hjl
      have hlk := hlook.out
      rw [hdr, lookE_cons] at hlk
      have hlk' := Lib.hid hlk
      clear t0 t1 hdr hlk hs
      generalize l[j] = u at *
      by_cases hk : u.key = k
      · have hke : Hid (lookE l k = some u.val) := Lib.hid (by rw [← hlk'.out, if_pos hk])
        subst hk
        clear hlk'
        go_wp2_with fail
        exact bodyPost_ret (v := valV (some u.val)) (by simp [results, Try.results35, go_sem, valV]) rfl ⟨by rw [hke.out], hB⟩
      · have hkb : (u.key == k) = false := by simpa using hk
        have hke := Lib.hid (show lookE (l.drop (j + 1)) k = lookE l k by rw [← hlk'.out, if_neg hk])
        go_wp2_with fail
        exact ⟨⟨j + 1, by go_num, by omega, hke, hB⟩, by simp [intOf]; omega⟩
    · obtain rfl : j = l.length := by omega
      have hke : Hid (lookE l k = none) := Lib.hid (by rw [← hlook.out, List.drop_length]; rfl)
      go_wp2_with fail
      exact bodyPost_ret (v := valV none) (by simp [results, Try.results35, go_sem, valV]; rfl) rfl ⟨by rw [hke.out], hB⟩

end Go.Proofs.Ytcjeonamebnpfaa

namespace Go.Proofs.Ytcjeonamebnpfaa
open Go.RowKit

/-- One entry in the document's loop. -/
def refStep (x : Ent) (st : List Ent × Bool) (e : Ent) : List Ent × Bool :=
  let s1 := if st.2 = false ∧ bl e.key x.key = false then (st.1 ++ [x], true) else st
  if e.key = x.key then s1 else (s1.1 ++ [e], s1.2)
def refFold (x : Ent) (st : List Ent × Bool) (l : List Ent) : List Ent × Bool := l.foldl (refStep x) st
theorem refFold_snoc (x : Ent) (st : List Ent × Bool) (l : List Ent) (j : Nat) (hj : j < l.length) : refFold x st (l.take (j + 1)) = refStep x (refFold x st (l.take j)) l[j] := by
  unfold refFold
  rw [List.take_succ_eq_append_getElem hj, List.foldl_append]
  rfl
theorem refStep_len (x : Ent) (st : List Ent × Bool) (e : Ent) : (refStep x st e).1.length ≤ st.1.length + 2 := by
  unfold refStep
  dsimp only
  split <;> split <;> simp
theorem refFold_len (x : Ent) : ∀ (l : List Ent) (st : List Ent × Bool), (refFold x st l).1.length ≤ st.1.length + 2 * l.length
  | [], st => by simp [refFold]
  | e :: l, st => by
    have h1 := refFold_len x l (refStep x st e)
    have h2 := refStep_len x st e
    have h3 : refFold x st (e :: l) = refFold x (refStep x st e) l := rfl
    rw [h3, List.length_cons]
    omega
theorem refFold_done (x : Ent) : ∀ (l out : List Ent), refFold x (out, true) l = (out ++ l.filter (fun e => e.key != x.key), true)
  | [], out => by simp [refFold]
  | e :: l, out => by
    have h3 : refFold x (out, true) (e :: l) = refFold x (refStep x (out, true) e) l := rfl
    rw [h3]
    unfold refStep
    by_cases hk : e.key = x.key
    · simp only [hk, if_true, Bool.true_eq_false, false_and, if_false]
      rw [refFold_done x l out]
      simp [hk]
    · simp only [hk, if_false, Bool.true_eq_false, false_and]
      rw [refFold_done x l (out ++ [e])]
      simp [hk]
theorem below_cons (e : Ent) (l : List Ent) (k : List UInt8) : below Ent.key (e :: l) k = if bl e.key k = true then below Ent.key l k + 1 else below Ent.key l k := by
  unfold below
  rw [List.countP_cons]
  split <;> simp
theorem below_none {e : Ent} {l : List Ent} (hr : Rising Ent.key (e :: l)) (k : List UInt8) (h : bl e.key k = false) : below Ent.key l k = 0 := by
  unfold below
  rw [List.countP_eq_zero]
  intro a ha hb
  have := bl_trans (hr.cons.1 a ha) hb
  rw [h] at this
  exact absurd this (by simp)
theorem refFold_open (x : Ent) : ∀ (l out : List Ent), Rising Ent.key l → refFold x (out, false) l = if below Ent.key l x.key < l.length then (out ++ l.take (below Ent.key l x.key) ++ x :: (l.drop (below Ent.key l x.key)).filter (fun e => e.key != x.key), true) else (out ++ l, false)
  | [], out, _ => by simp [refFold, below]
  | e :: l, out, hr => by
    have h3 : refFold x (out, false) (e :: l) = refFold x (refStep x (out, false) e) l := rfl
    rw [h3, below_cons]
    cases hb : bl e.key x.key with
    | true =>
      have hk : ¬ e.key = x.key := bl_ne hb
      have hs : refStep x (out, false) e = (out ++ [e], false) := by
        unfold refStep
        simp [hb, hk]
      rw [hs, refFold_open x l (out ++ [e]) hr.cons.2]
      simp only [if_true, List.length_cons, Nat.add_lt_add_iff_right, List.take_succ_cons, List.drop_succ_cons]
      split <;> simp
    | false =>
      have h0 := below_none hr x.key hb
      simp only [Bool.false_eq_true, if_false, h0]
      rw [if_pos (by simp)]
      by_cases hk : e.key = x.key
      · have hs : refStep x (out, false) e = (out ++ [x], true) := by
          unfold refStep
          simp [hk, bl_irrefl]
        rw [hs, refFold_done]
        simp [hk]
      · have hs : refStep x (out, false) e = (out ++ [x] ++ [e], true) := by
          unfold refStep
          simp [hb, hk]
        rw [hs, refFold_done]
        simp [hk]
/-- What the document's On makes of entries, told by its value and whether there is one. -/
def refOut (l : List Ent) (x : Ent) (is : Bool) : List Ent :=
  let st := refFold x ([], !is) l
  if st.2 then st.1 else st.1 ++ [x]
theorem filter_none {l : List Ent} {k : List UInt8} (h : ∀ e ∈ l, e.key ≠ k) : l.filter (fun e => e.key != k) = l := by
  rw [List.filter_eq_self]
  intro e he
  simpa using h e he
theorem filter_at {l : List Ent} (hr : Rising Ent.key l) (i : Nat) (hi : i < l.length) (k : List UInt8) (hk : l[i].key = k) : l.filter (fun e => e.key != k) = l.take i ++ l.drop (i + 1) := by
  have h1 : (l.take i).filter (fun e => e.key != k) = l.take i := filter_none fun e he => by
    obtain ⟨j, hj, rfl⟩ := List.getElem_of_mem he
    rw [List.length_take] at hj
    rw [List.getElem_take, ← hk]
    exact bl_ne (hr.lt (show j < i by omega) hi)
  have h2 : (l.drop (i + 1)).filter (fun e => e.key != k) = l.drop (i + 1) := filter_none fun e he => by
    obtain ⟨j, hj, rfl⟩ := List.getElem_of_mem he
    rw [List.length_drop] at hj
    rw [List.getElem_drop, ← hk]
    exact fun hk => bl_ne (hr.lt (show i < i + 1 + j by omega) (by omega)) hk.symm
  have h3 : (l.drop i).filter (fun e => e.key != k) = (l.drop (i + 1)).filter (fun e => e.key != k) := by
    rw [List.drop_eq_getElem_cons hi, List.filter_cons_of_neg (by simp [hk])]
  have h4 : l.filter (fun e => e.key != k) = (l.take i ++ l.drop i).filter (fun e => e.key != k) := by rw [List.take_append_drop]
  rw [h4, List.filter_append, h1, h3, h2]
/-- The document's way and the leaf's are one. -/
theorem refOut_is {l : List Ent} (hr : Rising Ent.key l) (u : Upd) (hc : u.check = 0) : refOut l ⟨u.key, (newE l u).1⟩ (newE l u).2 = onE l u := by
  have hc' : ¬ u.check ≠ 0 := by simp [hc]
  unfold onE
  rw [if_neg hc']
  generalize (newE l u).1 = y
  unfold refOut
  cases hh : hasKey Ent.key l u.key with
  | false =>
    have hno := hasKeyE_not hh
    cases hi : (newE l u).2 with
    | false =>
      have := refFold_done ⟨u.key, y⟩ l []
      simp only [Bool.not_false, this, if_true, List.nil_append]
      simp [filter_none hno]
    | true =>
      have := refFold_open ⟨u.key, y⟩ l [] hr
      simp only [Bool.not_true, this]
      have hf : (l.drop (below Ent.key l u.key)).filter (fun e => e.key != u.key) = l.drop (below Ent.key l u.key) := filter_none fun e he => hno e (List.mem_of_mem_drop he)
      split
      · simp [insE, hf]
      · rename_i hb
        have hle := below_le (key := Ent.key) l u.key
        have hbl : below Ent.key l u.key = l.length := by omega
        simp [insE, hbl]
  | true =>
    obtain ⟨hlt, hkey⟩ := (hr.found u.key).1 hh
    have hfa := filter_at hr _ hlt _ hkey
    cases hi : (newE l u).2 with
    | false =>
      have := refFold_done ⟨u.key, y⟩ l []
      simp only [Bool.not_false, this, if_true, List.nil_append]
      simp [hfa, delE]
    | true =>
      have := refFold_open ⟨u.key, y⟩ l [] hr
      simp only [Bool.not_true, this]
      have hd : (l.drop (below Ent.key l u.key)).filter (fun e => e.key != u.key) = l.drop (below Ent.key l u.key + 1) := by
        have h1 : (l.take (below Ent.key l u.key)).filter (fun e => e.key != u.key) = l.take (below Ent.key l u.key) := filter_none fun e he => by
          obtain ⟨j, hj, rfl⟩ := List.getElem_of_mem he
          rw [List.length_take] at hj
          rw [List.getElem_take]
          exact bl_ne ((hr.below u.key j (by omega)).2 (by omega))
        have h4 : l.filter (fun e => e.key != u.key) = (l.take (below Ent.key l u.key) ++ l.drop (below Ent.key l u.key)).filter (fun e => e.key != u.key) := by rw [List.take_append_drop]
        rw [h4, List.filter_append, h1] at hfa
        exact List.append_cancel_left hfa
      simp only [hlt, if_true, List.nil_append, hd]
      rw [List.set_eq_take_append_cons_drop, if_pos hlt]

end Go.Proofs.Ytcjeonamebnpfaa

namespace Go.Proofs.Ytcjeonamebnpfaa
open Go.RowKit

theorem infoR : (Try.prog.info? 73).map (fun i => (i.zero, i.size, i.bytes)) = some (some (.agg #[.string ByteArray.empty, .string ByteArray.empty]), 2, 32) := by kernel_rfl
/-- Entries in a row of the call's own, whatever the elements' type is called. -/
theorem SlE.of_row {w : World} {B n : Nat} {E : TypeId} {v : Value} {l : List Ent} (h : w.ownsRow B E 2 v n (cellsE l)) : l.length = n ∧ SlE w v l := by
  have hn : l.length = n := by have := h.1; rw [cellsE_len] at this; omega
  refine ⟨hn, ?_⟩
  subst hn
  rcases ownsRow_open h with ⟨rfl, h0, -⟩ | ⟨g, cap, cur, rfl, -, hr, h3, h4, h5, h6⟩
  · obtain rfl := List.eq_nil_of_length_eq_zero h0
    exact SlE.nil w
  · refine ⟨_, cap, rfl, Or.inr ⟨g, 0, rfl, hr.lt, fun i hi j x hx => ?_⟩, h3, by unfold maxLen at h4; omega, fun e => by simp at e⟩
    have hj : j < 2 := (List.getElem?_eq_some_iff.1 hx).1
    have e := cellsE_get l i hi j x hx
    rw [hr.cell, Nat.zero_add, ← e, ← h6, List.getElem?_take, if_pos (by omega)]
theorem cell_two_new (w : World) (x y : Value) (t : TypeId) : ∀ j v, [x, y][j]? = some v → (w.alloc (.cells #[x, y] t)).cell? ((⟨w.heap.size, 0, none⟩ : Addr).add j) = some v := by
  intro j v hj
  match j, hj with
  | 0, hj => simp at hj; subst hj; simp [Addr.add]
  | 1, hj => simp at hj; subst hj; simp [Addr.add]

set_option maxRecDepth 100000 in
set_option maxHeartbeats 4000000 in
theorem refEOn_run (ao : Option Addr) (c : Nat) (l : List Ent) (kd : Nat) (key val : List UInt8) (dl : Nat) (w : World) (hs : SlAt Ent.cells 2 w ao l) (hl : l.length ≤ 1000) (hk : kd < 256) (hd : dl < 18446744073709551616) (hc : (Upd.mk kd key val dl).check = 0) (y : List UInt8) (is : Bool)
    (hnew : (match lookE l key with | some v => onL v true ⟨kd, key, val, dl⟩ | none => onL [] false ⟨kd, key, val, dl⟩) = (y, is)) :
    Calls Try.prog 32 #[.slice ao l.length c, .agg #[.int .u8 kd, .string (S key), .string (S val), .int .u64 dl]] w fun e w' => (∃ a c', e = .returned (.slice a (refOut l ⟨key, y⟩ is).length c') ∧ w'.ownsRow w.heap.size 73 2 (.slice a (refOut l ⟨key, y⟩ is).length c') (refOut l ⟨key, y⟩ is).length (cellsE (refOut l ⟨key, y⟩ is))) ∧ Below w.heap.size w w' := by
  obtain ⟨i0, hi, iz0, iz1, iz2⟩ := info_parts infoR
  have hchk := fun w => refCheck kd key val dl hk hd w
  rw [hc] at hchk
  have hget := fun w h => refEGet_any ao c l key w (by omega) h
  obtain ⟨old, there, hlv, hon⟩ : ∃ old there, valV (lookE l key) = .tuple #[.string (S old), .bool there] ∧ onL old there ⟨kd, key, val, dl⟩ = (y, is) := by
    cases hlk : lookE l key with
    | none => exact ⟨[], false, rfl, by simpa [hlk] using hnew⟩
    | some v => exact ⟨v, true, rfl, by simpa [hlk] using hnew⟩
  rw [hlv] at hget
  have honr := fun w => refOn_any old there kd key val dl hk hd w
  unfold onV at honr
  rw [hon] at honr
  have HG := Lib.hid hget
  have HN := Lib.hid honr
  have HS := Lib.hid hs
  clear hnew hlv hon hget honr hs hc hk hd
  go_enter Try.func32, Try.ntmps32
  go_wp2_with fail
  refine (thread (hchk _) w.heap.size w (by go_grown) (by go_grown)).mono ?_
  rintro e w1 ⟨rfl, hB1, hk1, -, -, hz1⟩
  have p0 := (hk1 w.heap.size 0 (by simp)).trans (by simp [go_sem]; rfl)
  have p1 := (hk1 w.heap.size 1 (by simp)).trans (by simp [go_sem]; rfl)
  have p2 := (hk1 w.heap.size 2 (by simp)).trans (by simp [go_sem]; rfl)
  have p3 := (hk1 w.heap.size 3 (by simp)).trans (by simp [go_sem]; rfl)
  clear hk1 hchk
  go_wp2_with fail
  refine (thread (HG.out _ (HS.out.kept hB1 (Nat.le_refl _))) w1.heap.size w1 (by go_grown) (by go_grown)).mono ?_
  rintro e w2 ⟨rfl, hX2, -, -, -, hz2⟩
  have q0 := kept_cell hX2 p0
  have q1 := kept_cell hX2 p1
  have q2 := kept_cell hX2 p2
  have q3 := kept_cell hX2 p3
  have hB2 := hB1.trans (hX2.mono hz1)
  clear p0 p1 p2 p3 hX2
  go_wp2_with fail
  refine (thread (HN.out _) w2.heap.size w2 (by go_grown) (by go_grown)).mono ?_
  rintro e w3 ⟨rfl, hX3, -, -, -, hz3⟩
  have r1 := kept_cell hX3 q1
  have hB3 := hB2.trans (hX3.mono (by omega))
  have hu3 : w.heap.size < w3.heap.size := World.block_lt_of_cell? w3 _ r1
  clear q0 q1 q2 q3 hX3
  go_wp2_with fail
  go_loopw [12, 10, 11] (fun i out dn wr => ∃ j : Nat, i = .int .i64 j ∧ j ≤ l.length ∧ ∃ st : List Ent × Bool, Hid (refFold ⟨key, y⟩ ([], !is) (l.take j) = st) ∧ dn = .bool st.2 ∧ wr.ownsRow w3.heap.size 73 2 out st.1.length (cellsE st.1) ∧ Below w3.heap.size w3 wr) (fun i _ _ _ => l.length - (intOf i).toNat)
  case atStart => exact ⟨0, rfl, Nat.zero_le _, ([], !is), Lib.hid rfl, rfl, World.ownsRow_nil _ _ _ _, Below.refl _ _⟩
  case round =>
    obtain ⟨j, rfl, hj, ⟨o, dn⟩, hfold, rfl, ho, hB⟩ := hrel
    have hj0 : (0 : Int) ≤ (j : Int) := Int.natCast_nonneg _
    dsimp only at ho
    obtain ⟨ov, oc, eo⟩ := own_form ho
    subst eo
    by_cases hjl : j < l.length
    · have hj1 : (j : Int) < (l.length : Int) := by omega
      obtain ⟨b, off, rfl, hb, t0, t1⟩ := SlAt.cells2 HS.out j hjl
      have hBw := hB3.trans (hB.mono hB3.size)
      have q0 := (cell_below hBw hb _).trans t0
      have q1 := (cell_below hBw hb _).trans t1
      have r1w := (cell_below hB hu3 1).trans r1
      have hst := Lib.hid (refFold_snoc ⟨key, y⟩ ([], !is) l j hjl)
      have hol : o.length ≤ 2000 := by
        have h1 := refFold_len ⟨key, y⟩ (l.take j) ([], !is)
        rw [hfold.out, List.length_take] at h1
        simp only [List.length_nil] at h1
        omega
      clear t1 hBw HG HN
      generalize l[j] = e at *
      cases dn with
      | true =>
        by_cases hk : e.key = key
        · have hkb : (e.key == key) = true := by simpa using hk
          go_wp2_with fail
          go_quiet (fail)
          obtain ⟨wqa, hwqa⟩ : ∃ wqa, wqa = wr.drewN nq := ⟨_, rfl⟩
          rw [← hwqa]
          have hBqa : Below wr.heap.size wr wqa := by rw [hwqa]; exact below_drewN (Below.refl _ _) nq
          clear hwqa
          have e0a := kept_cell hBqa q0
          have e1a := kept_cell hBqa q1
          have k1a := kept_cell hBqa r1w
          have owna := own_below ho hBqa
          have hBBa := hB.trans (hBqa.mono hB.size)
          clear hBqa
          go_wp2_with fail
          go_quiet (fail)
          obtain ⟨wqb, hwqb⟩ : ∃ wqb, wqb = wqa.drewN nq := ⟨_, rfl⟩
          rw [← hwqb]
          have hBqb : Below wqa.heap.size wqa wqb := by rw [hwqb]; exact below_drewN (Below.refl _ _) nq
          clear hwqb
          have e0b := kept_cell hBqb e0a
          have e1b := kept_cell hBqb e1a
          have k1b := kept_cell hBqb k1a
          have ownb := own_below owna hBqb
          have hBBb := hBBa.trans (hBqb.mono hBBa.size)
          clear hBqb
          go_wp2_with fail
          have hstep : refStep ⟨key, y⟩ (o, true) e = (o, true) := by
            unfold refStep
            simp [hk]
          exact ⟨⟨j + 1, by go_num, by omega, (o, true), Lib.hid (by rw [hst.out, hfold.out, hstep]), rfl, ownb, hBBb⟩, by simp [intOf]; omega⟩
        · have hkb : (e.key == key) = false := by simpa using hk
          go_wp2_with fail
          go_quiet (fail)
          obtain ⟨wqa, hwqa⟩ : ∃ wqa, wqa = wr.drewN nq := ⟨_, rfl⟩
          rw [← hwqa]
          have hBqa : Below wr.heap.size wr wqa := by rw [hwqa]; exact below_drewN (Below.refl _ _) nq
          clear hwqa
          have e0a := kept_cell hBqa q0
          have e1a := kept_cell hBqa q1
          have k1a := kept_cell hBqa r1w
          have owna := own_below ho hBqa
          have hBBa := hB.trans (hBqa.mono hB.size)
          clear hBqa
          go_wp2_with fail
          go_quiet (fail)
          obtain ⟨wqb, hwqb⟩ : ∃ wqb, wqb = wqa.drewN nq := ⟨_, rfl⟩
          rw [← hwqb]
          have hBqb : Below wqa.heap.size wqa wqb := by rw [hwqb]; exact below_drewN (Below.refl _ _) nq
          clear hwqb
          have e0b := kept_cell hBqb e0a
          have e1b := kept_cell hBqb e1a
          have k1b := kept_cell hBqb k1a
          have ownb := own_below owna hBqb
          have hBBb := hBBa.trans (hBqb.mono hBBa.size)
          clear hBqb
          go_wp2_with (at_builtin; go_must (refine wpList_append_own_at _ rfl (.tmp 67) (.tmp 72) 70 rfl w3.heap.size 73 i0 (.agg #[.string ByteArray.empty, .string ByteArray.empty]) 2 32 Try.underlying70 hi iz0 iz1 iz2 rfl (by decide) _ o.length _ rfl (ownb.alloc _) ⟨wqb.heap.size, 0, none⟩ 1 1 [.string (S e.key), .string (S e.val)] rfl rfl (cell_two_new _ _ _ _) (by simp [Value.oneCell']) (by unfold maxLen; omega) (by omega) (by have := hBBb.size; simp; omega) ?_; intro vz wz hownz hgrowz _ _))
          have hstep : refStep ⟨key, y⟩ (o, true) e = (o ++ [e], true) := by
            unfold refStep
            simp [hk]
          exact ⟨⟨j + 1, by go_num, by omega, (o ++ [e], true), Lib.hid (by rw [hst.out, hfold.out, hstep]), rfl, by rw [cellsE_append, cellsE_one, List.length_append, List.length_singleton]; exact hownz, below_grown (hBBb.alloc (by have := hBBb.size; omega) _) hgrowz (fun k e => (ownb.lt k e).1) (by have := hBBb.size; simp; omega)⟩, by simp [intOf]; omega⟩
      | false =>
        cases hbl : bl e.key key with
        | true =>
          have hk : ¬ e.key = key := bl_ne hbl
          have hkb : (e.key == key) = false := by simpa using hk
          go_wp2_with fail
          go_quiet (fail)
          obtain ⟨wqa, hwqa⟩ : ∃ wqa, wqa = wr.drewN nq := ⟨_, rfl⟩
          rw [← hwqa]
          have hBqa : Below wr.heap.size wr wqa := by rw [hwqa]; exact below_drewN (Below.refl _ _) nq
          clear hwqa
          have e0a := kept_cell hBqa q0
          have e1a := kept_cell hBqa q1
          have k1a := kept_cell hBqa r1w
          have owna := own_below ho hBqa
          have hBBa := hB.trans (hBqa.mono hB.size)
          clear hBqa
          go_wp2_with fail
          go_quiet (fail)
          obtain ⟨wqb, hwqb⟩ : ∃ wqb, wqb = wqa.drewN nq := ⟨_, rfl⟩
          rw [← hwqb]
          have hBqb : Below wqa.heap.size wqa wqb := by rw [hwqb]; exact below_drewN (Below.refl _ _) nq
          clear hwqb
          have e0b := kept_cell hBqb e0a
          have e1b := kept_cell hBqb e1a
          have k1b := kept_cell hBqb k1a
          have ownb := own_below owna hBqb
          have hBBb := hBBa.trans (hBqb.mono hBBa.size)
          clear hBqb
          go_wp2_with (at_builtin; go_must (refine wpList_append_own_at _ rfl (.tmp 67) (.tmp 72) 70 rfl w3.heap.size 73 i0 (.agg #[.string ByteArray.empty, .string ByteArray.empty]) 2 32 Try.underlying70 hi iz0 iz1 iz2 rfl (by decide) _ o.length _ rfl (ownb.alloc _) ⟨wqb.heap.size, 0, none⟩ 1 1 [.string (S e.key), .string (S e.val)] rfl rfl (cell_two_new _ _ _ _) (by simp [Value.oneCell']) (by unfold maxLen; omega) (by omega) (by have := hBBb.size; simp; omega) ?_; intro vz wz hownz hgrowz _ _))
          have hstep : refStep ⟨key, y⟩ (o, false) e = (o ++ [e], false) := by
            unfold refStep
            simp [hbl, hk]
          exact ⟨⟨j + 1, by go_num, by omega, (o ++ [e], false), Lib.hid (by rw [hst.out, hfold.out, hstep]), rfl, by rw [cellsE_append, cellsE_one, List.length_append, List.length_singleton]; exact hownz, below_grown (hBBb.alloc (by have := hBBb.size; omega) _) hgrowz (fun k e => (ownb.lt k e).1) (by have := hBBb.size; simp; omega)⟩, by simp [intOf]; omega⟩
        | false =>
          by_cases hk : e.key = key
          · have hkb : (e.key == key) = true := by simpa using hk
            have hbk : Op.bytesLess key key = false := bl_irrefl key
            go_wp2_with fail
            go_quiet (fail)
            obtain ⟨wqa, hwqa⟩ : ∃ wqa, wqa = wr.drewN nq := ⟨_, rfl⟩
            rw [← hwqa]
            have hBqa : Below wr.heap.size wr wqa := by rw [hwqa]; exact below_drewN (Below.refl _ _) nq
            clear hwqa
            have e0a := kept_cell hBqa q0
            have e1a := kept_cell hBqa q1
            have k1a := kept_cell hBqa r1w
            have owna := own_below ho hBqa
            have hBBa := hB.trans (hBqa.mono hB.size)
            clear hBqa
            go_wp2_with (at_builtin; go_must (refine wpList_append_own_at _ rfl (.tmp 52) (.tmp 57) 70 rfl w3.heap.size 73 i0 (.agg #[.string ByteArray.empty, .string ByteArray.empty]) 2 32 Try.underlying70 hi iz0 iz1 iz2 rfl (by decide) _ o.length _ rfl (owna.alloc _) ⟨wqa.heap.size, 0, none⟩ 1 1 [.string (S key), .string (S y)] rfl rfl (cell_two_new _ _ _ _) (by simp [Value.oneCell']) (by unfold maxLen; omega) (by omega) (by have := hBBa.size; simp; omega) ?_; intro vx wx hownx hgrowx _ _))
            have hownX : wx.ownsRow w3.heap.size 73 2 vx (o ++ [Ent.mk key y]).length (cellsE (o ++ [Ent.mk key y])) := by rw [cellsE_append, cellsE_one, List.length_append, List.length_singleton]; exact hownx
            have hBX := below_grown (hBBa.alloc (by have := hBBa.size; omega) _) hgrowx (fun k e => (owna.lt k e).1) (by have := hBBa.size; simp; omega)
            have hne : ∀ g, (Value.slice ov o.length oc).ownBlock = some g → w3.heap.size ≤ g := fun g e => (owna.lt g e).1
            obtain ⟨ax, cx, ex⟩ := own_form hownx
            subst ex
            have f0 := hgrowx.cell (cell_past _ e0a) (fun h => by have h1 : b < w.heap.size := hb; have h2 : w3.heap.size ≤ b := hne _ h.symm; have h3 := hB3.size; omega)
            have f1 := hgrowx.cell (cell_past _ e1a) (fun h => by have h1 : b < w.heap.size := hb; have h2 : w3.heap.size ≤ b := hne _ h.symm; have h3 := hB3.size; omega)
            have f2 := hgrowx.cell (cell_past _ k1a) (fun h => by have h2 : w3.heap.size ≤ w.heap.size := hne _ h.symm; omega)
            have hol2 : (o ++ [Ent.mk key y]).length ≤ 2001 := by rw [List.length_append, List.length_singleton]; omega
            clear hgrowx hownx
            go_wp2_with fail
            go_quiet (fail)
            obtain ⟨wqb, hwqb⟩ : ∃ wqb, wqb = wx.drewN nq := ⟨_, rfl⟩
            rw [← hwqb]
            have hBqb : Below wx.heap.size wx wqb := by rw [hwqb]; exact below_drewN (Below.refl _ _) nq
            clear hwqb
            have e0b := kept_cell hBqb f0
            have e1b := kept_cell hBqb f1
            have k1b := kept_cell hBqb f2
            have ownb := own_below hownX hBqb
            have hBBb := hBX.trans (hBqb.mono hBX.size)
            clear hBqb
            go_wp2_with fail
            have hstep : refStep ⟨key, y⟩ (o, false) e = (o ++ [Ent.mk key y], true) := by
              unfold refStep
              simp [hk, bl_irrefl]
            exact ⟨⟨j + 1, by go_num, by omega, (o ++ [Ent.mk key y], true), Lib.hid (by rw [hst.out, hfold.out, hstep]), rfl, ownb, hBBb⟩, by simp [intOf]; omega⟩
          · have hkb : (e.key == key) = false := by simpa using hk
            go_wp2_with fail
            go_quiet (fail)
            obtain ⟨wqa, hwqa⟩ : ∃ wqa, wqa = wr.drewN nq := ⟨_, rfl⟩
            rw [← hwqa]
            have hBqa : Below wr.heap.size wr wqa := by rw [hwqa]; exact below_drewN (Below.refl _ _) nq
            clear hwqa
            have e0a := kept_cell hBqa q0
            have e1a := kept_cell hBqa q1
            have k1a := kept_cell hBqa r1w
            have owna := own_below ho hBqa
            have hBBa := hB.trans (hBqa.mono hB.size)
            clear hBqa
            go_wp2_with (at_builtin; go_must (refine wpList_append_own_at _ rfl (.tmp 52) (.tmp 57) 70 rfl w3.heap.size 73 i0 (.agg #[.string ByteArray.empty, .string ByteArray.empty]) 2 32 Try.underlying70 hi iz0 iz1 iz2 rfl (by decide) _ o.length _ rfl (owna.alloc _) ⟨wqa.heap.size, 0, none⟩ 1 1 [.string (S key), .string (S y)] rfl rfl (cell_two_new _ _ _ _) (by simp [Value.oneCell']) (by unfold maxLen; omega) (by omega) (by have := hBBa.size; simp; omega) ?_; intro vx wx hownx hgrowx _ _))
            have hownX : wx.ownsRow w3.heap.size 73 2 vx (o ++ [Ent.mk key y]).length (cellsE (o ++ [Ent.mk key y])) := by rw [cellsE_append, cellsE_one, List.length_append, List.length_singleton]; exact hownx
            have hBX := below_grown (hBBa.alloc (by have := hBBa.size; omega) _) hgrowx (fun k e => (owna.lt k e).1) (by have := hBBa.size; simp; omega)
            have hne : ∀ g, (Value.slice ov o.length oc).ownBlock = some g → w3.heap.size ≤ g := fun g e => (owna.lt g e).1
            obtain ⟨ax, cx, ex⟩ := own_form hownx
            subst ex
            have f0 := hgrowx.cell (cell_past _ e0a) (fun h => by have h1 : b < w.heap.size := hb; have h2 : w3.heap.size ≤ b := hne _ h.symm; have h3 := hB3.size; omega)
            have f1 := hgrowx.cell (cell_past _ e1a) (fun h => by have h1 : b < w.heap.size := hb; have h2 : w3.heap.size ≤ b := hne _ h.symm; have h3 := hB3.size; omega)
            have f2 := hgrowx.cell (cell_past _ k1a) (fun h => by have h2 : w3.heap.size ≤ w.heap.size := hne _ h.symm; omega)
            have hol2 : (o ++ [Ent.mk key y]).length ≤ 2001 := by rw [List.length_append, List.length_singleton]; omega
            clear hgrowx hownx
            go_wp2_with fail
            go_quiet (fail)
            obtain ⟨wqb, hwqb⟩ : ∃ wqb, wqb = wx.drewN nq := ⟨_, rfl⟩
            rw [← hwqb]
            have hBqb : Below wx.heap.size wx wqb := by rw [hwqb]; exact below_drewN (Below.refl _ _) nq
            clear hwqb
            have e0b := kept_cell hBqb f0
            have e1b := kept_cell hBqb f1
            have k1b := kept_cell hBqb f2
            have ownb := own_below hownX hBqb
            have hBBb := hBX.trans (hBqb.mono hBX.size)
            clear hBqb
            go_wp2_with (at_builtin; go_must (refine wpList_append_own_at _ rfl (.tmp 67) (.tmp 72) 70 rfl w3.heap.size 73 i0 (.agg #[.string ByteArray.empty, .string ByteArray.empty]) 2 32 Try.underlying70 hi iz0 iz1 iz2 rfl (by decide) _ (o ++ [Ent.mk key y]).length _ rfl (ownb.alloc _) ⟨wqb.heap.size, 0, none⟩ 1 1 [.string (S e.key), .string (S e.val)] rfl rfl (cell_two_new _ _ _ _) (by simp [Value.oneCell']) (by unfold maxLen; omega) (by omega) (by have := hBBb.size; simp; omega) ?_; intro vz wz hownz hgrowz _ _))
            have hstep : refStep ⟨key, y⟩ (o, false) e = (o ++ [Ent.mk key y] ++ [e], true) := by
              unfold refStep
              simp [hbl, hk]
            exact ⟨⟨j + 1, by go_num, by omega, (o ++ [Ent.mk key y] ++ [e], true), Lib.hid (by rw [hst.out, hfold.out, hstep]), rfl, by rw [cellsE_append (o ++ [Ent.mk key y]) [e], cellsE_one, List.length_append, List.length_singleton]; exact hownz, below_grown (hBBb.alloc (by have := hBBb.size; omega) _) hgrowz (fun k e => (ownb.lt k e).1) (by have := hBBb.size; simp; omega)⟩, by simp [intOf]; omega⟩
    · obtain rfl : j = l.length := by omega
      have hro := hfold.out
      rw [List.take_length] at hro
      have hBw := hB3.trans (hB.mono hB3.size)
      have r1w := (cell_below hB hu3 1).trans r1
      have hol : o.length ≤ 2000 := by
        have h1 := refFold_len ⟨key, y⟩ l ([], !is)
        rw [hro] at h1
        simp only [List.length_nil] at h1
        omega
      cases dn with
      | true =>
        have hre := Lib.hid (show refOut l ⟨key, y⟩ is = o by unfold refOut; rw [hro]; rfl)
        clear hro
        go_wp2_with fail
        go_ret
        exact ⟨⟨ov, oc, by rw [hre.out]; rfl, by rw [hre.out]; exact own_base ho (by have := hB3.size; omega)⟩, hBw⟩
      | false =>
        have hre := Lib.hid (show refOut l ⟨key, y⟩ is = o ++ [Ent.mk key y] by unfold refOut; rw [hro]; rfl)
        clear hro
        go_wp2_with (at_builtin; go_must (refine wpList_append_own_at _ rfl (.tmp 76) (.tmp 81) 70 rfl w3.heap.size 73 i0 (.agg #[.string ByteArray.empty, .string ByteArray.empty]) 2 32 Try.underlying70 hi iz0 iz1 iz2 rfl (by decide) _ o.length _ rfl (ho.alloc _) ⟨wr.heap.size, 0, none⟩ 1 1 [.string (S key), .string (S y)] rfl rfl (cell_two_new _ _ _ _) (by simp [Value.oneCell']) (by unfold maxLen; omega) (by omega) (by have := hB.size; simp; omega) ?_; intro vz wz hownz hgrowz _ _; obtain ⟨az, cz, ez⟩ := own_form hownz; subst ez))
        have hownZ : wz.ownsRow w3.heap.size 73 2 (.slice az (o ++ [Ent.mk key y]).length cz) (o ++ [Ent.mk key y]).length (cellsE (o ++ [Ent.mk key y])) := by rw [cellsE_append, cellsE_one, List.length_append, List.length_singleton]; exact hownz
        go_ret
        refine ⟨⟨az, cz, by rw [hre.out, List.length_append, List.length_singleton]; rfl, by rw [hre.out]; exact own_base hownZ (by have := hB3.size; omega)⟩, ?_⟩
        exact hB3.trans ((below_grown (hB.alloc (by have := hB.size; omega) _) hgrowz (fun k e => (ho.lt k e).1) (by have := hB.size; simp; omega)).mono hB3.size)

end Go.Proofs.Ytcjeonamebnpfaa

namespace Go.Proofs.Ytcjeonamebnpfaa
open Go.RowKit

set_option maxHeartbeats 1000000 in
theorem refEOn_not (v : Value) (kd : Nat) (key val : List UInt8) (dl : Nat) (w : World) (hk : kd < 256) (hd : dl < 18446744073709551616) (hc : (Upd.mk kd key val dl).check ≠ 0) :
    Calls Try.prog 32 #[v, .agg #[.int .u8 kd, .string (S key), .string (S val), .int .u64 dl]] w fun e w' => e = .returned v ∧ Below w.heap.size w w' := by
  have hchk := fun w => refCheck kd key val dl hk hd w
  have hc0 : (((Upd.mk kd key val dl).check : Nat) : Int) ≠ 0 := by omega
  generalize (Upd.mk kd key val dl).check = cc at *
  go_enter Try.func32, Try.ntmps32
  go_wp2_with fail
  refine (thread (hchk _) w.heap.size w (by go_grown) (by go_grown)).mono ?_
  rintro e w1 ⟨rfl, hB1, -, -, -, -⟩
  go_wp2_with fail
  go_ret
  exact ⟨rfl, hB1⟩

theorem newE_is {l : List Ent} (hr : Rising Ent.key l) (u : Upd) : (match lookE l u.key with | some v => onL v true u | none => onL [] false u) = newE l u := by
  unfold newE
  cases hh : hasKey Ent.key l u.key with
  | false => rw [lookE_none hh]; rfl
  | true =>
    obtain ⟨hlt, hkey⟩ := (hr.found u.key).1 hh
    have ho : oldE l u.key = (l[below Ent.key l u.key]'hlt).val := by unfold oldE; rw [List.getElem?_eq_getElem hlt]; rfl
    have hl := lookE_at hr _ hlt
    rw [hkey] at hl
    rw [hl, ho]
    rfl
/-- It is a row of its own, or what came in. -/
theorem refEOn_own (ao : Option Addr) (n c : Nat) (l : List Ent) (kd : Nat) (key val : List UInt8) (dl : Nat) (w : World) (hn : n = l.length) (hs : SlE w (.slice ao n c) l) (hr : Rising Ent.key l) (hl : l.length ≤ 1000) (hk : kd < 256) (hd : dl < 18446744073709551616) :
    Calls Try.prog 32 #[.slice ao n c, .agg #[.int .u8 kd, .string (S key), .string (S val), .int .u64 dl]] w fun e w' => (∃ a c', e = .returned (.slice a (onE l ⟨kd, key, val, dl⟩).length c') ∧ (w'.ownsRow w.heap.size 73 2 (.slice a (onE l ⟨kd, key, val, dl⟩).length c') (onE l ⟨kd, key, val, dl⟩).length (cellsE (onE l ⟨kd, key, val, dl⟩)) ∨ (a = ao ∧ c' = c ∧ onE l ⟨kd, key, val, dl⟩ = l))) ∧ Below w.heap.size w w' := by
  subst hn
  by_cases hc : (Upd.mk kd key val dl).check = 0
  · have h1 := newE_is hr ⟨kd, key, val, dl⟩
    have h2 := refOut_is hr ⟨kd, key, val, dl⟩ hc
    obtain ⟨ao', c', e, hs', -⟩ := hs
    simp only [Value.slice.injEq] at e
    obtain ⟨rfl, -, rfl⟩ := e
    have := refEOn_run ao c l kd key val dl w hs' hl hk hd hc (newE l ⟨kd, key, val, dl⟩).1 (newE l ⟨kd, key, val, dl⟩).2 h1
    dsimp only at h2
    rw [h2] at this
    refine this.mono ?_
    rintro e w' ⟨⟨a, c', he, ho⟩, hb⟩
    exact ⟨⟨a, c', he, Or.inl ho⟩, hb⟩
  · have h3 : onE l ⟨kd, key, val, dl⟩ = l := by unfold onE; rw [if_pos hc]
    rw [h3]
    refine (refEOn_not _ kd key val dl w hk hd hc).mono ?_
    rintro e w' ⟨rfl, hb⟩
    exact ⟨⟨ao, c, rfl, Or.inr ⟨rfl, rfl, rfl⟩⟩, hb⟩
theorem refEOn_any (ao : Option Addr) (n c : Nat) (l : List Ent) (kd : Nat) (key val : List UInt8) (dl : Nat) (w : World) (hn : n = l.length) (hs : SlE w (.slice ao n c) l) (hr : Rising Ent.key l) (hl : l.length ≤ 1000) (hk : kd < 256) (hd : dl < 18446744073709551616) :
    Calls Try.prog 32 #[.slice ao n c, .agg #[.int .u8 kd, .string (S key), .string (S val), .int .u64 dl]] w fun e w' => (∃ a c', e = .returned (.slice a (onE l ⟨kd, key, val, dl⟩).length c') ∧ SlE w' (.slice a (onE l ⟨kd, key, val, dl⟩).length c') (onE l ⟨kd, key, val, dl⟩)) ∧ Below w.heap.size w w' := by
  refine (refEOn_own ao n c l kd key val dl w hn hs hr hl hk hd).mono ?_
  rintro e w' ⟨⟨a, c', he, h⟩, hb⟩
  refine ⟨⟨a, c', he, ?_⟩, hb⟩
  rcases h with h | ⟨rfl, rfl, h⟩
  · exact (SlE.of_row h).2
  · rw [h, ← hn]
    exact hs.kept hb (Nat.le_refl _)

end Go.Proofs.Ytcjeonamebnpfaa
