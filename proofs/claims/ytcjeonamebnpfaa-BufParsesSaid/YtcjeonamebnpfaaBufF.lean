/-
  The walks of buf.Of, buf.Parse, and of the document's Rising and Parse of layer 15.
-/
import Derived.Test.YtcjeonamebnpfaaPruR
import Derived.Test.YtcjeonamebnpfaaBoxU
import Derived.BigQuiet
namespace Go.Proofs.Ytcjeonamebnpfaa
open Go.RowKit
attribute [local go_sem ↓] Go.wp_at_zero Go.wp_at_succ

theorem rising_not {α : Type} {key : α → List UInt8} {l : List α} {j : Nat} (h : ¬ Rising key (l.take j)) : ¬ Rising key l := fun hr => h (hr.sublist (List.take_sublist j l))
theorem rising_one {α : Type} {key : α → List UInt8} (l : List α) : Rising key (l.take 1) := by
  cases l with
  | nil => exact List.Pairwise.nil
  | cons a t => exact List.pairwise_singleton _ _
theorem rising_step {α : Type} {key : α → List UInt8} (l : List α) (q : Nat) (hq : q + 1 < l.length) (h : Rising key (l.take (q + 1))) : Rising key (l.take (q + 2)) ↔ bl (key (l[q]'(by omega))) (key l[q + 1]) = true := by
  rw [show q + 2 = (q + 1) + 1 from rfl, List.take_succ_eq_append_getElem hq]
  constructor
  · intro h2
    have h3 := (List.pairwise_append.1 h2).2.2
    refine h3 (l[q]'(by omega)) ?_ l[q + 1] (List.mem_singleton.2 rfl)
    rw [List.mem_take_iff_getElem]
    exact ⟨q, by omega, rfl⟩
  · intro h2
    refine List.pairwise_append.2 ⟨h, by simp, fun a ha b hb => ?_⟩
    rw [List.mem_singleton] at hb
    subst hb
    obtain ⟨i, hi, rfl⟩ := List.mem_take_iff_getElem.1 ha
    by_cases e : i = q
    · subst e; exact h2
    · have h4 := Rising.lt h (show i < q by omega) (by rw [List.length_take]; omega)
      simp only [List.getElem_take] at h4
      exact bl_trans h4 h2

/-- A buffer, and an error's number. -/
def BfRes (B : Nat) (p : List Upd × Nat) (e : Ending) (w' : World) : Prop :=
  ∃ a c, e = .returned (.tuple #[.agg #[.slice a p.1.length c], .int .i64 p.2]) ∧ w'.ownsRow B 31 4 (.slice a p.1.length c) p.1.length (cellsU p.1)
theorem BfRes.none (B : Nat) (n : Nat) (w' : World) (e : Ending) (he : e = .returned (.tuple #[.agg #[.slice none 0 0], .int .i64 n])) : BfRes B ([], n) e w' := ⟨Option.none, 0, he, World.ownsRow_nil _ _ _ _⟩

/-- What buf.Of makes of updates, and the error's number. -/
def ofU (l : List Upd) : List Upd × Nat := if risingB l then (l, 0) else ([], 2)
theorem ofU_yes {l : List Upd} (h : Rising Upd.key l) : ofU l = (l, 0) := by unfold ofU; rw [if_pos ((risingB_iff l).2 h)]
theorem ofU_no {l : List Upd} (h : ¬ Rising Upd.key l) : ofU l = ([], 2) := by unfold ofU; rw [if_neg (fun k => h ((risingB_iff l).1 k))]

set_option maxRecDepth 100000 in
set_option maxHeartbeats 4000000 in
theorem bufOf_any (ao : Option Addr) (n c : Nat) (l : List Upd) (w : World) (hn : n = l.length) (hl : l.length ≤ 1000000) (hs : SlU w (.slice ao n c) l) :
    Calls Try.prog 41 #[.slice ao n c] w fun e w' => BfRes w.heap.size (ofU l) e w' ∧ Below w.heap.size w w' := by
  subst hn
  have HY := Lib.hid (fun h : Rising Upd.key l => ofU_yes h)
  have HNO := Lib.hid (fun h : ¬ Rising Upd.key l => ofU_no h)
  have HS := Lib.hid hs
  generalize ofU l = R at *
  obtain ⟨ao', c', e', hs0, -⟩ := hs
  simp only [Value.slice.injEq] at e'
  obtain ⟨rfl, -, rfl⟩ := e'
  have HS0 := Lib.hid hs0
  clear hs0
  go_enter Try.func41, Try.ntmps41
  go_wp2_with fail
  go_loopw [4] (fun i wr => ∃ q : Nat, i = .int .i64 (q + 1 : Nat) ∧ (q + 1 ≤ l.length ∨ q = 0) ∧ Hid (Rising Upd.key (l.take (q + 1))) ∧ wr.cell? ⟨w.heap.size, 0, none⟩ = some (.slice none 0 0) ∧ wr.frozen? ⟨w.heap.size, 0, none⟩ = false ∧ w.heap.size < wr.heap.size ∧ Below w.heap.size w wr) (fun i _ => l.length - (intOf i).toNat)
  case atStart => exact ⟨0, rfl, Or.inr rfl, Lib.hid (rising_one l), by simp, by simp, by simp, by go_grown⟩
  case round =>
    obtain ⟨q, rfl, hj, hR, hp, hpf, hsz, hB⟩ := hrel
    have hq0 : (0 : Int) ≤ (q : Int) := Int.natCast_nonneg _
    rw [show ((q + 1 : Nat) : Int) = (q : Int) + 1 from rfl]
    by_cases hjl : q + 1 < l.length
    · have hj1 : (q : Int) + 1 < (l.length : Int) := by omega
      have hst := Lib.hid (rising_step l q hjl hR.out)
      have hno : Hid (¬ Rising Upd.key (l.take (q + 2)) → R = ([], 2)) := Lib.hid fun h => HNO.out (rising_not h)
      obtain ⟨b, off, rfl, hb, -, t1, -, -⟩ := SlAt.cells4 HS0.out (q + 1) hjl
      obtain ⟨b', off', e', hb', -, t1', -, -⟩ := SlAt.cells4 HS0.out q (by omega)
      simp only [Option.some.injEq, Addr.mk.injEq] at e'
      obtain ⟨rfl, rfl, -⟩ := e'
      have q1 := (cell_below hB hb _).trans t1
      have q2 := (cell_below hB hb _).trans t1'
      have hq1 : (q : Int) < (l.length : Int) := by omega
      have hw1 : IntKind.i64.wrap (q : Int) = (q : Int) := IntWalk.i64_in _ (by omega)
      have hw2 : IntKind.i64.wrap ((q : Int) + 1 - 1) = (q : Int) := by rw [show (q : Int) + 1 - 1 = (q : Int) by omega]; exact hw1
      clear t1 t1'
      cases hlt : bl l[q].key l[q + 1].key with
      | true =>
        have hR2 := Lib.hid (hst.out.2 hlt)
        clear hst hno
        have hlt' : Op.bytesLess l[q].key l[q + 1].key = true := hlt
        clear hlt
        generalize l[q + 1] = u at *
        generalize l[q] = u' at *
        go_wp2_with fail
        go_quiet (fail)
        go_wp2_with fail
        have hBn : Below wr.heap.size wr (wr.drewN nq) := below_drewN (Below.refl _ _) _
        exact ⟨⟨q + 1, by go_num, Or.inl (by omega), hR2, hp, hpf, hsz, hB.trans (hBn.mono (by omega))⟩, by simp [intOf]; omega⟩
      | false =>
        have hbf := Lib.hid (hno.out (fun h => by have h2 := hst.out.1 h; rw [hlt] at h2; exact absurd h2 (by simp)))
        clear hst hno
        have hlt' : Op.bytesLess l[q].key l[q + 1].key = false := hlt
        clear hlt
        generalize l[q + 1] = u at *
        generalize l[q] = u' at *
        go_wp2_with fail
        go_quiet (fail)
        go_wp2_with fail
        have hBn : Below w.heap.size w (wr.drewN nq) := below_drewN hB _
        refine bodyPost_ret (v := .tuple #[.agg #[.slice none 0 0], .int .i64 2]) (by simp [results, Try.results41, go_sem, hp]) rfl ⟨?_, ?_⟩
        · rw [hbf.out]
          exact BfRes.none _ _ _ _ rfl
        · exact hBn.setCell (p := ⟨w.heap.size, 0, none⟩) (Nat.le_refl _) _
    · have hjn : ¬ (q : Int) + 1 < (l.length : Int) := by omega
      have hbt := Lib.hid (HY.out (by have h := hR.out; rwa [List.take_of_length_le (by omega)] at h))
      have HS2 := Lib.hid (HS.out.kept hB (Nat.le_refl _))
      go_wp2_with fail
      refine (thread (cloneU _ l wr HS2.out hl) wr.heap.size wr (Below.refl _ _) (Nat.le_refl _)).mono ?_
      rintro e w1 ⟨⟨v1, rfl, hown1⟩, hX1, hk1, hf1, -, hz1⟩
      obtain ⟨a1, c1, e1⟩ := own_form hown1
      subst e1
      have p1 := (hk1 w.heap.size 0 hsz).trans hp
      have pf1 := (hf1 w.heap.size 0 hsz).trans hpf
      have hB1 := hB.trans (hX1.mono (by omega))
      have HO1 := Lib.hid hown1
      clear hk1 hf1 hX1 hp hpf hown1
      go_wp2_with fail
      refine bodyPost_ret (v := .tuple #[.agg #[.slice a1 l.length c1], .int .i64 0]) (by simp [results, Try.results41, go_sem, p1]) rfl ⟨?_, ?_⟩
      · rw [hbt.out]
        exact ⟨a1, c1, rfl, own_base (ownsRow_setCell_other (a := ⟨w.heap.size, 0, none⟩) HO1.out (fun e => by have h2 : wr.heap.size ≤ w.heap.size := (HO1.out.lt _ e).1; omega) _) (by omega)⟩
      · exact hB1.setCell (p := ⟨w.heap.size, 0, none⟩) (Nat.le_refl _) _

set_option maxRecDepth 100000 in
set_option maxHeartbeats 4000000 in
theorem refRising_any (ao : Option Addr) (c : Nat) (l : List Upd) (w : World) (hl : l.length ≤ 1000000) (hs : SlAt Upd.cells 4 w ao l) :
    Calls Try.prog 42 #[.slice ao l.length c] w fun e w' => e = .returned (.bool (risingB l)) ∧ Below w.heap.size w w' := by
  have HBO := Lib.hid (risingB_iff l)
  have HS0 := Lib.hid hs
  generalize risingB l = bo at *
  clear hs
  go_enter Try.func42, Try.ntmps42
  go_wp2_with fail
  go_loopw [3] (fun i wr => ∃ q : Nat, i = .int .i64 (q + 1 : Nat) ∧ (q + 1 ≤ l.length ∨ q = 0) ∧ Hid (Rising Upd.key (l.take (q + 1))) ∧ Below w.heap.size w wr) (fun i _ => l.length - (intOf i).toNat)
  case atStart => exact ⟨0, rfl, Or.inr rfl, Lib.hid (rising_one l), Below.refl _ _⟩
  case round =>
    obtain ⟨q, rfl, hj, hR, hB⟩ := hrel
    have hq0 : (0 : Int) ≤ (q : Int) := Int.natCast_nonneg _
    rw [show ((q + 1 : Nat) : Int) = (q : Int) + 1 from rfl]
    by_cases hjl : q + 1 < l.length
    · have hj1 : (q : Int) + 1 < (l.length : Int) := by omega
      have hst := Lib.hid (rising_step l q hjl hR.out)
      have hno : Hid (¬ Rising Upd.key (l.take (q + 2)) → bo = false) := Lib.hid fun h => by
        cases hbb : bo with
        | false => rfl
        | true => exact absurd (HBO.out.1 hbb) (rising_not h)
      obtain ⟨b, off, rfl, hb, -, t1, -, -⟩ := SlAt.cells4 HS0.out (q + 1) hjl
      obtain ⟨b', off', e', hb', -, t1', -, -⟩ := SlAt.cells4 HS0.out q (by omega)
      simp only [Option.some.injEq, Addr.mk.injEq] at e'
      obtain ⟨rfl, rfl, -⟩ := e'
      have q1 := (cell_below hB hb _).trans t1
      have q2 := (cell_below hB hb _).trans t1'
      have hq1 : (q : Int) < (l.length : Int) := by omega
      have hw1 : IntKind.i64.wrap (q : Int) = (q : Int) := IntWalk.i64_in _ (by omega)
      have hw2 : IntKind.i64.wrap ((q : Int) + 1 - 1) = (q : Int) := by rw [show (q : Int) + 1 - 1 = (q : Int) by omega]; exact hw1
      clear t1 t1'
      cases hlt : bl l[q].key l[q + 1].key with
      | true =>
        have hR2 := Lib.hid (hst.out.2 hlt)
        clear hst hno
        have hlt' : Op.bytesLess l[q].key l[q + 1].key = true := hlt
        clear hlt
        generalize l[q + 1] = u at *
        generalize l[q] = u' at *
        go_wp2_with fail
        go_quiet (fail)
        go_wp2_with fail
        exact ⟨⟨q + 1, by go_num, Or.inl (by omega), hR2, below_drewN hB _⟩, by simp [intOf]; omega⟩
      | false =>
        have hbf := Lib.hid (hno.out (fun h => by have h2 := hst.out.1 h; rw [hlt] at h2; exact absurd h2 (by simp)))
        clear hst hno
        have hlt' : Op.bytesLess l[q].key l[q + 1].key = false := hlt
        clear hlt
        generalize l[q + 1] = u at *
        generalize l[q] = u' at *
        go_wp2_with fail
        go_quiet (fail)
        go_wp2_with fail
        exact bodyPost_ret (v := .bool false) (by simp [results, Try.results42, go_sem]) rfl ⟨by rw [hbf.out], below_drewN hB _⟩
    · have hjn : ¬ (q : Int) + 1 < (l.length : Int) := by omega
      have hbt := Lib.hid (HBO.out.2 (by have h := hR.out; rwa [List.take_of_length_le (by omega)] at h))
      go_wp2_with fail
      exact bodyPost_ret (v := .bool true) (by simp [results, Try.results42, go_sem]) rfl ⟨by rw [hbt.out], hB⟩

end Go.Proofs.Ytcjeonamebnpfaa
