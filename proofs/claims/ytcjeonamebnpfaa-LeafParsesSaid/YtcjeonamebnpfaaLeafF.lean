/-
  The walk of leaf.Of.
-/
import Derived.Test.YtcjeonamebnpfaaPrsP
import Derived.Test.YtcjeonamebnpfaaRgu
namespace Go.Proofs.Ytcjeonamebnpfaa
open Go.RowKit
attribute [local go_sem ↓] Go.wp_at_zero Go.wp_at_succ

/-- What leaf.Of tells. -/
def OfRes (B : Nat) (l : List Ent) : Bool → Ending → World → Prop
  | true, e, w' => ∃ a c, e = .returned (.tuple #[.agg #[.slice a l.length c], .int .i64 0]) ∧ w'.ownsRow B 54 2 (.slice a l.length c) l.length (cellsE l)
  | false, e, _ => e = .returned (.tuple #[.agg #[.slice none 0 0], .int .i64 2])

set_option maxRecDepth 100000 in
set_option maxHeartbeats 4000000 in
theorem leafOf_any (ao : Option Addr) (n c : Nat) (l : List Ent) (w : World) (hn : n = l.length) (hl : l.length ≤ 1000000) (hs : SlE w (.slice ao n c) l) :
    Calls Try.prog 26 #[.slice ao n c] w fun e w' => OfRes w.heap.size l (rightB l) e w' ∧ Below w.heap.size w w' := by
  subst hn
  have HBO := Lib.hid (rightB_iff l)
  have HS := Lib.hid hs
  generalize rightB l = bo at *
  obtain ⟨ao', c', e', hs0, -⟩ := hs
  simp only [Value.slice.injEq] at e'
  obtain ⟨rfl, -, rfl⟩ := e'
  have HS0 := Lib.hid hs0
  clear hs0
  go_enter Try.func26, Try.ntmps26
  go_wp2_with fail
  go_loopw [8] (fun i wr => ∃ j : Nat, i = .int .i64 j ∧ j ≤ l.length ∧ Hid (RightE (l.take j)) ∧ wr.cell? ⟨w.heap.size, 0, none⟩ = some (.slice none 0 0) ∧ wr.frozen? ⟨w.heap.size, 0, none⟩ = false ∧ w.heap.size < wr.heap.size ∧ Below w.heap.size w wr) (fun i _ => l.length - (intOf i).toNat)
  case atStart => exact ⟨0, rfl, Nat.zero_le _, Lib.hid right_nil, by simp, by simp, by simp, by go_grown⟩
  case round =>
    obtain ⟨j, rfl, hj, hR, hp, hpf, hsz, hB⟩ := hrel
    have hj0 : (0 : Int) ≤ (j : Int) := Int.natCast_nonneg _
    by_cases hjl : j < l.length
    · have hj1 : (j : Int) < (l.length : Int) := by omega
      have hst := Lib.hid (right_step l j hjl hR.out)
      have hno : Hid (¬ RightE (l.take (j + 1)) → bo = false) := Lib.hid fun h => by
        cases hbb : bo with
        | false => rfl
        | true => exact absurd (HBO.out.1 hbb) (right_not h)
      obtain ⟨b, off, rfl, hb, t0, t1⟩ := SlAt.cells2 HS0.out j hjl
      have q0 := (cell_below hB hb _).trans t0
      have q1 := (cell_below hB hb _).trans t1
      clear t0 t1
      cases hok : okB l[j] with
      | false =>
        have hbf := Lib.hid (hno.out (fun h => by have := (hst.out.1 h).1; rw [hok] at this; exact absurd this (by simp)))
        have hright := fun W => rightOne l[j].key l[j].val W
        rw [show okB (⟨l[j].key, l[j].val⟩ : Ent) = false from hok] at hright
        have HRT := Lib.hid hright
        clear hst hno hok hright
        generalize l[j] = u at *
        go_wp2_with fail
        refine WQ.region (C := fun w' => w'.cell? ⟨wr.heap.size, 0, none⟩ = some (.string (S u.key)) ∧ w'.cell? ⟨wr.heap.size, 1, none⟩ = some (.string (S u.val)) ∧ Below wr.heap.size wr w') (by kernel_rfl) (by kernel_rfl) (⟨cell_drew (by simp), cell_drew (by simp), by go_grown⟩) ?_
        refine WQ.want (by rfl) (fun K hK => ?_)
        refine ⟨.agg #[.string (S u.key), .string (S u.val)], fun w' hw' => ?_, hK _ ?_⟩
        · obtain ⟨x0, x1, x2⟩ := hw'
          go_simp
        clear hK K
        (try simp only [Act.put, List.setIfInBounds_toArray, List.set_cons_zero, List.set_cons_succ])
        refine WQ.want (by rfl) (fun K hK => ?_)
        refine ⟨.bool false, fun w' hw' => ?_, hK _ ?_⟩
        · obtain ⟨x0, x1, x2⟩ := hw'
          go_simp
          go_at_call 54
          refine (HRT.out _).mono ?_
          rintro e w6 ⟨he, hb6⟩
          exact ⟨he, kept_cell hb6 x0, kept_cell hb6 x1, x2.trans (hb6.mono x2.size)⟩
        clear hK K
        (try simp only [Act.put, List.setIfInBounds_toArray, List.set_cons_zero, List.set_cons_succ])
        refine WQ.want (by rfl) (fun K hK => ?_)
        refine ⟨.bool true, fun w' hw' => ?_, hK _ ?_⟩
        · obtain ⟨x0, x1, x2⟩ := hw'
          go_simp
        clear hK K
        (try simp only [Act.put, List.setIfInBounds_toArray, List.set_cons_zero, List.set_cons_succ])
        refine WQ.want (by rfl) (fun K hK => ?_)
        refine BigFrame.quiet_move _ rfl (hK _ ?_)
        clear hK K
        (try simp only [Act.put, List.setIfInBounds_toArray, List.set_cons_zero, List.set_cons_succ])
        refine WQ.skip (by rfl) ?_
        (try simp only [Act.put, List.setIfInBounds_toArray, List.set_cons_zero, List.set_cons_succ])
        refine WQ.skip (by rfl) ?_
        (try simp only [Act.put, List.setIfInBounds_toArray, List.set_cons_zero, List.set_cons_succ])
        refine WQ.skip (by rfl) ?_
        (try simp only [Act.put, List.setIfInBounds_toArray, List.set_cons_zero, List.set_cons_succ])
        refine WQ.skip (by rfl) ?_
        (try simp only [Act.put, List.setIfInBounds_toArray, List.set_cons_zero, List.set_cons_succ])
        refine WQ.skip (by rfl) ?_
        (try simp only [Act.put, List.setIfInBounds_toArray, List.set_cons_zero, List.set_cons_succ])
        refine WQ.skip (by rfl) ?_
        (try simp only [Act.put, List.setIfInBounds_toArray, List.set_cons_zero, List.set_cons_succ])
        refine WQ.skip (by rfl) ?_
        (try simp only [Act.put, List.setIfInBounds_toArray, List.set_cons_zero, List.set_cons_succ])
        refine WQ.skip (by rfl) ?_
        (try simp only [Act.put, List.setIfInBounds_toArray, List.set_cons_zero, List.set_cons_succ])
        refine WQ.skip (by rfl) ?_
        (try simp only [Act.put, List.setIfInBounds_toArray, List.set_cons_zero, List.set_cons_succ])
        refine WQ.skip (by rfl) ?_
        (try simp only [Act.put, List.setIfInBounds_toArray, List.set_cons_zero, List.set_cons_succ])
        refine WQ.skip (by rfl) ?_
        (try simp only [Act.put, List.setIfInBounds_toArray, List.set_cons_zero, List.set_cons_succ])
        refine WQ.skip (by rfl) ?_
        (try simp only [Act.put, List.setIfInBounds_toArray, List.set_cons_zero, List.set_cons_succ])
        refine WQ.skip (by rfl) ?_
        (try simp only [Act.put, List.setIfInBounds_toArray, List.set_cons_zero, List.set_cons_succ])
        refine WQ.want (by rfl) (fun K hK => ?_)
        refine ⟨.bool true, fun w' hw' => ?_, hK _ ?_⟩
        · obtain ⟨x0, x1, x2⟩ := hw'
          go_simp
        clear hK K
        (try simp only [Act.put, List.setIfInBounds_toArray, List.set_cons_zero, List.set_cons_succ])
        refine WQ.done ?_
        rintro w6 ⟨-, -, hE⟩
        have p1 := kept_cell hE hp
        have pf1 := (hE.frozen (p := ⟨w.heap.size, 0, none⟩) hsz).trans hpf
        have hB6 := hB.trans (hE.mono (by omega))
        clear hE hp hpf
        go_wp2_with fail
        refine bodyPost_ret (v := .tuple #[.agg #[.slice none 0 0], .int .i64 2]) (by simp [results, Try.results26, go_sem, p1]) rfl ⟨?_, ?_⟩
        · rw [hbf.out]
          exact rfl
        · exact hB6.setCell (p := ⟨w.heap.size, 0, none⟩) (Nat.le_refl _) _
      | true =>
        have hright := fun W => rightOne l[j].key l[j].val W
        rw [show okB (⟨l[j].key, l[j].val⟩ : Ent) = true from hok] at hright
        have HRT := Lib.hid hright
        clear hright
        rcases j with _ | q
        · have hR2 := Lib.hid (hst.out.2 ⟨hok, fun h => absurd h (by omega)⟩)
          clear hst hno hok
          generalize l[0] = u at *
          rw [show ((0 : Nat) : Int) = 0 from rfl] at hj1
          rw [Nat.zero_mul, Nat.add_zero] at q0 q1
          have hd : decide ((0 : Int) < 0) = false := rfl
          go_wp2_with fail
          refine WQ.region (C := fun w' => w'.cell? ⟨wr.heap.size, 0, none⟩ = some (.string (S u.key)) ∧ w'.cell? ⟨wr.heap.size, 1, none⟩ = some (.string (S u.val)) ∧ Below wr.heap.size wr w') (by kernel_rfl) (by kernel_rfl) (⟨cell_drew (by simp), cell_drew (by simp), by go_grown⟩) ?_
          refine WQ.want (by rfl) (fun K hK => ?_)
          refine ⟨.agg #[.string (S u.key), .string (S u.val)], fun w' hw' => ?_, hK _ ?_⟩
          · obtain ⟨x0, x1, x2⟩ := hw'
            go_simp
          clear hK K
          (try simp only [Act.put, List.setIfInBounds_toArray, List.set_cons_zero, List.set_cons_succ])
          refine WQ.want (by rfl) (fun K hK => ?_)
          refine ⟨.bool true, fun w' hw' => ?_, hK _ ?_⟩
          · obtain ⟨x0, x1, x2⟩ := hw'
            go_simp
            go_at_call 54
            refine (HRT.out _).mono ?_
            rintro e w6 ⟨he, hb6⟩
            exact ⟨he, kept_cell hb6 x0, kept_cell hb6 x1, x2.trans (hb6.mono x2.size)⟩
          clear hK K
          (try simp only [Act.put, List.setIfInBounds_toArray, List.set_cons_zero, List.set_cons_succ])
          refine WQ.want (by rfl) (fun K hK => ?_)
          refine ⟨.bool false, fun w' hw' => ?_, hK _ ?_⟩
          · obtain ⟨x0, x1, x2⟩ := hw'
            go_simp
          clear hK K
          (try simp only [Act.put, List.setIfInBounds_toArray, List.set_cons_zero, List.set_cons_succ])
          refine WQ.want (by rfl) (fun K hK => ?_)
          refine BigFrame.quiet_move _ rfl (hK _ ?_)
          clear hK K
          (try simp only [Act.put, List.setIfInBounds_toArray, List.set_cons_zero, List.set_cons_succ])
          refine WQ.want (by rfl) (fun K hK => ?_)
          refine BigFrame.quiet_move _ rfl (hK _ ?_)
          clear hK K
          (try simp only [Act.put, List.setIfInBounds_toArray, List.set_cons_zero, List.set_cons_succ])
          refine WQ.want (by rfl) (fun K hK => ?_)
          refine ⟨.bool false, fun w' hw' => ?_, hK _ ?_⟩
          · obtain ⟨x0, x1, x2⟩ := hw'
            go_simp
          clear hK K
          (try simp only [Act.put, List.setIfInBounds_toArray, List.set_cons_zero, List.set_cons_succ])
          refine WQ.want (by rfl) (fun K hK => ?_)
          refine BigFrame.quiet_move _ rfl (hK _ ?_)
          clear hK K
          (try simp only [Act.put, List.setIfInBounds_toArray, List.set_cons_zero, List.set_cons_succ])
          refine WQ.skip (by rfl) ?_
          (try simp only [Act.put, List.setIfInBounds_toArray, List.set_cons_zero, List.set_cons_succ])
          refine WQ.skip (by rfl) ?_
          (try simp only [Act.put, List.setIfInBounds_toArray, List.set_cons_zero, List.set_cons_succ])
          refine WQ.skip (by rfl) ?_
          (try simp only [Act.put, List.setIfInBounds_toArray, List.set_cons_zero, List.set_cons_succ])
          refine WQ.skip (by rfl) ?_
          (try simp only [Act.put, List.setIfInBounds_toArray, List.set_cons_zero, List.set_cons_succ])
          refine WQ.skip (by rfl) ?_
          (try simp only [Act.put, List.setIfInBounds_toArray, List.set_cons_zero, List.set_cons_succ])
          refine WQ.skip (by rfl) ?_
          (try simp only [Act.put, List.setIfInBounds_toArray, List.set_cons_zero, List.set_cons_succ])
          refine WQ.skip (by rfl) ?_
          (try simp only [Act.put, List.setIfInBounds_toArray, List.set_cons_zero, List.set_cons_succ])
          refine WQ.skip (by rfl) ?_
          (try simp only [Act.put, List.setIfInBounds_toArray, List.set_cons_zero, List.set_cons_succ])
          refine WQ.skip (by rfl) ?_
          (try simp only [Act.put, List.setIfInBounds_toArray, List.set_cons_zero, List.set_cons_succ])
          refine WQ.want (by rfl) (fun K hK => ?_)
          refine ⟨.bool false, fun w' hw' => ?_, hK _ ?_⟩
          · obtain ⟨x0, x1, x2⟩ := hw'
            go_simp
          clear hK K
          (try simp only [Act.put, List.setIfInBounds_toArray, List.set_cons_zero, List.set_cons_succ])
          refine WQ.want (by rfl) (fun K hK => ?_)
          refine ⟨.bool false, fun w' hw' => ?_, hK _ ?_⟩
          · obtain ⟨x0, x1, x2⟩ := hw'
            go_simp
          clear hK K
          (try simp only [Act.put, List.setIfInBounds_toArray, List.set_cons_zero, List.set_cons_succ])
          refine WQ.done ?_
          rintro w6 ⟨-, -, hE⟩
          have p1 := kept_cell hE hp
          have pf1 := (hE.frozen (p := ⟨w.heap.size, 0, none⟩) hsz).trans hpf
          have hB6 := hB.trans (hE.mono (by omega))
          have hs6 : w.heap.size < w6.heap.size := Nat.lt_of_lt_of_le hsz hE.size
          clear hE hp hpf
          go_wp2_with fail
          exact ⟨⟨1, by go_num, by omega, hR2, p1, pf1, hs6, hB6⟩, by simp [intOf]; omega⟩
        · obtain ⟨b', off', e', hb', t0', t1'⟩ := SlAt.cells2 HS0.out q (by omega)
          simp only [Option.some.injEq, Addr.mk.injEq] at e'
          obtain ⟨rfl, rfl, -⟩ := e'
          have q2 := (cell_below hB hb _).trans t0'
          have hq0 : (0 : Int) ≤ (q : Int) := Int.natCast_nonneg _
          have hq1 : (q : Int) < (l.length : Int) := by omega
          have hw1 : IntKind.i64.wrap (q : Int) = (q : Int) := IntWalk.i64_in _ (by omega)
          have hd : decide ((0 : Int) < (q : Int) + 1) = true := by rw [decide_eq_true_iff]; omega
          clear t0' t1'
          cases hlt : bl l[q].key l[q + 1].key with
          | true =>
            have hR2 := Lib.hid (hst.out.2 ⟨hok, fun h => hlt⟩)
            clear hst hno hok
            have hlt' : Op.bytesLess l[q].key l[q + 1].key = true := hlt
            clear hlt
            generalize l[q + 1] = u at *
            generalize l[q] = u' at *
            go_wp2_with fail
            refine WQ.region (C := fun w' => w'.cell? ⟨wr.heap.size, 0, none⟩ = some (.string (S u.key)) ∧ w'.cell? ⟨wr.heap.size, 1, none⟩ = some (.string (S u.val)) ∧ w'.cell? ⟨b, off + q * 2, none⟩ = some (.string (S u'.key)) ∧ Below wr.heap.size wr w') (by kernel_rfl) (by kernel_rfl) (⟨cell_drew (by simp), cell_drew (by simp), cell_drew (cell_past _ q2), by go_grown⟩) ?_
            refine WQ.want (by rfl) (fun K hK => ?_)
            refine ⟨.agg #[.string (S u.key), .string (S u.val)], fun w' hw' => ?_, hK _ ?_⟩
            · obtain ⟨x0, x1, x3, x2⟩ := hw'
              go_simp
            clear hK K
            (try simp only [Act.put, List.setIfInBounds_toArray, List.set_cons_zero, List.set_cons_succ])
            refine WQ.want (by rfl) (fun K hK => ?_)
            refine ⟨.bool true, fun w' hw' => ?_, hK _ ?_⟩
            · obtain ⟨x0, x1, x3, x2⟩ := hw'
              go_simp
              go_at_call 54
              refine (HRT.out _).mono ?_
              rintro e w6 ⟨he, hb6⟩
              exact ⟨he, kept_cell hb6 x0, kept_cell hb6 x1, kept_cell hb6 x3, x2.trans (hb6.mono x2.size)⟩
            clear hK K
            (try simp only [Act.put, List.setIfInBounds_toArray, List.set_cons_zero, List.set_cons_succ])
            refine WQ.want (by rfl) (fun K hK => ?_)
            refine ⟨.bool false, fun w' hw' => ?_, hK _ ?_⟩
            · obtain ⟨x0, x1, x3, x2⟩ := hw'
              go_simp
            clear hK K
            (try simp only [Act.put, List.setIfInBounds_toArray, List.set_cons_zero, List.set_cons_succ])
            refine WQ.want (by rfl) (fun K hK => ?_)
            refine BigFrame.quiet_move _ rfl (hK _ ?_)
            clear hK K
            (try simp only [Act.put, List.setIfInBounds_toArray, List.set_cons_zero, List.set_cons_succ])
            refine WQ.want (by rfl) (fun K hK => ?_)
            refine BigFrame.quiet_move _ rfl (hK _ ?_)
            clear hK K
            (try simp only [Act.put, List.setIfInBounds_toArray, List.set_cons_zero, List.set_cons_succ])
            refine WQ.want (by rfl) (fun K hK => ?_)
            refine ⟨.bool true, fun w' hw' => ?_, hK _ ?_⟩
            · obtain ⟨x0, x1, x3, x2⟩ := hw'
              go_simp
            clear hK K
            (try simp only [Act.put, List.setIfInBounds_toArray, List.set_cons_zero, List.set_cons_succ])
            refine WQ.want (by rfl) (fun K hK => ?_)
            refine BigFrame.quiet_move _ rfl (hK _ ?_)
            clear hK K
            (try simp only [Act.put, List.setIfInBounds_toArray, List.set_cons_zero, List.set_cons_succ])
            refine WQ.want (by rfl) (fun K hK => ?_)
            refine BigFrame.quiet_move _ rfl (hK _ ?_)
            clear hK K
            (try simp only [Act.put, List.setIfInBounds_toArray, List.set_cons_zero, List.set_cons_succ])
            refine WQ.want (by rfl) (fun K hK => ?_)
            refine BigFrame.quiet_move _ rfl (hK _ ?_)
            clear hK K
            (try simp only [Act.put, List.setIfInBounds_toArray, List.set_cons_zero, List.set_cons_succ])
            refine WQ.want (by rfl) (fun K hK => ?_)
            refine ⟨.int .i64 q, fun w' hw' => ?_, hK _ ?_⟩
            · obtain ⟨x0, x1, x3, x2⟩ := hw'
              go_simp
            clear hK K
            (try simp only [Act.put, List.setIfInBounds_toArray, List.set_cons_zero, List.set_cons_succ])
            refine WQ.want (by rfl) (fun K hK => ?_)
            refine ⟨.pointer (some ⟨b, off + q * 2, none⟩), fun w' hw' => ?_, hK _ ?_⟩
            · obtain ⟨x0, x1, x3, x2⟩ := hw'
              go_simp
            clear hK K
            (try simp only [Act.put, List.setIfInBounds_toArray, List.set_cons_zero, List.set_cons_succ])
            refine WQ.want (by rfl) (fun K hK => ?_)
            refine ⟨.pointer (some ⟨b, off + q * 2, none⟩), fun w' hw' => ?_, hK _ ?_⟩
            · obtain ⟨x0, x1, x3, x2⟩ := hw'
              go_simp
            clear hK K
            (try simp only [Act.put, List.setIfInBounds_toArray, List.set_cons_zero, List.set_cons_succ])
            refine WQ.want (by rfl) (fun K hK => ?_)
            refine ⟨.string (S u'.key), fun w' hw' => ?_, hK _ ?_⟩
            · obtain ⟨x0, x1, x3, x2⟩ := hw'
              go_simp
            clear hK K
            (try simp only [Act.put, List.setIfInBounds_toArray, List.set_cons_zero, List.set_cons_succ])
            refine WQ.want (by rfl) (fun K hK => ?_)
            refine ⟨.pointer (some ⟨wr.heap.size, 0, none⟩), fun w' hw' => ?_, hK _ ?_⟩
            · obtain ⟨x0, x1, x3, x2⟩ := hw'
              go_simp
            clear hK K
            (try simp only [Act.put, List.setIfInBounds_toArray, List.set_cons_zero, List.set_cons_succ])
            refine WQ.want (by rfl) (fun K hK => ?_)
            refine ⟨.string (S u.key), fun w' hw' => ?_, hK _ ?_⟩
            · obtain ⟨x0, x1, x3, x2⟩ := hw'
              go_simp
            clear hK K
            (try simp only [Act.put, List.setIfInBounds_toArray, List.set_cons_zero, List.set_cons_succ])
            refine WQ.want (by rfl) (fun K hK => ?_)
            refine ⟨.bool false, fun w' hw' => ?_, hK _ ?_⟩
            · obtain ⟨x0, x1, x3, x2⟩ := hw'
              go_simp
            clear hK K
            (try simp only [Act.put, List.setIfInBounds_toArray, List.set_cons_zero, List.set_cons_succ])
            refine WQ.want (by rfl) (fun K hK => ?_)
            refine ⟨.bool false, fun w' hw' => ?_, hK _ ?_⟩
            · obtain ⟨x0, x1, x3, x2⟩ := hw'
              go_simp
            clear hK K
            (try simp only [Act.put, List.setIfInBounds_toArray, List.set_cons_zero, List.set_cons_succ])
            refine WQ.want (by rfl) (fun K hK => ?_)
            refine ⟨.bool false, fun w' hw' => ?_, hK _ ?_⟩
            · obtain ⟨x0, x1, x3, x2⟩ := hw'
              go_simp
            clear hK K
            (try simp only [Act.put, List.setIfInBounds_toArray, List.set_cons_zero, List.set_cons_succ])
            refine WQ.done ?_
            rintro w6 ⟨-, -, -, hE⟩
            have p1 := kept_cell hE hp
            have pf1 := (hE.frozen (p := ⟨w.heap.size, 0, none⟩) hsz).trans hpf
            have hB6 := hB.trans (hE.mono (by omega))
            have hs6 : w.heap.size < w6.heap.size := Nat.lt_of_lt_of_le hsz hE.size
            clear hE hp hpf
            go_wp2_with fail
            exact ⟨⟨q + 2, by go_num, by omega, hR2, p1, pf1, hs6, hB6⟩, by simp [intOf]; omega⟩
          | false =>
            have hbf := Lib.hid (hno.out (fun h => by have this : bl l[q].key l[q + 1].key = true := (hst.out.1 h).2 (by omega); rw [hlt] at this; exact absurd this (by simp)))
            clear hst hno hok
            have hlt' : Op.bytesLess l[q].key l[q + 1].key = false := hlt
            clear hlt
            generalize l[q + 1] = u at *
            generalize l[q] = u' at *
            go_wp2_with fail
            refine WQ.region (C := fun w' => w'.cell? ⟨wr.heap.size, 0, none⟩ = some (.string (S u.key)) ∧ w'.cell? ⟨wr.heap.size, 1, none⟩ = some (.string (S u.val)) ∧ w'.cell? ⟨b, off + q * 2, none⟩ = some (.string (S u'.key)) ∧ Below wr.heap.size wr w') (by kernel_rfl) (by kernel_rfl) (⟨cell_drew (by simp), cell_drew (by simp), cell_drew (cell_past _ q2), by go_grown⟩) ?_
            refine WQ.want (by rfl) (fun K hK => ?_)
            refine ⟨.agg #[.string (S u.key), .string (S u.val)], fun w' hw' => ?_, hK _ ?_⟩
            · obtain ⟨x0, x1, x3, x2⟩ := hw'
              go_simp
            clear hK K
            (try simp only [Act.put, List.setIfInBounds_toArray, List.set_cons_zero, List.set_cons_succ])
            refine WQ.want (by rfl) (fun K hK => ?_)
            refine ⟨.bool true, fun w' hw' => ?_, hK _ ?_⟩
            · obtain ⟨x0, x1, x3, x2⟩ := hw'
              go_simp
              go_at_call 54
              refine (HRT.out _).mono ?_
              rintro e w6 ⟨he, hb6⟩
              exact ⟨he, kept_cell hb6 x0, kept_cell hb6 x1, kept_cell hb6 x3, x2.trans (hb6.mono x2.size)⟩
            clear hK K
            (try simp only [Act.put, List.setIfInBounds_toArray, List.set_cons_zero, List.set_cons_succ])
            refine WQ.want (by rfl) (fun K hK => ?_)
            refine ⟨.bool false, fun w' hw' => ?_, hK _ ?_⟩
            · obtain ⟨x0, x1, x3, x2⟩ := hw'
              go_simp
            clear hK K
            (try simp only [Act.put, List.setIfInBounds_toArray, List.set_cons_zero, List.set_cons_succ])
            refine WQ.want (by rfl) (fun K hK => ?_)
            refine BigFrame.quiet_move _ rfl (hK _ ?_)
            clear hK K
            (try simp only [Act.put, List.setIfInBounds_toArray, List.set_cons_zero, List.set_cons_succ])
            refine WQ.want (by rfl) (fun K hK => ?_)
            refine BigFrame.quiet_move _ rfl (hK _ ?_)
            clear hK K
            (try simp only [Act.put, List.setIfInBounds_toArray, List.set_cons_zero, List.set_cons_succ])
            refine WQ.want (by rfl) (fun K hK => ?_)
            refine ⟨.bool true, fun w' hw' => ?_, hK _ ?_⟩
            · obtain ⟨x0, x1, x3, x2⟩ := hw'
              go_simp
            clear hK K
            (try simp only [Act.put, List.setIfInBounds_toArray, List.set_cons_zero, List.set_cons_succ])
            refine WQ.want (by rfl) (fun K hK => ?_)
            refine BigFrame.quiet_move _ rfl (hK _ ?_)
            clear hK K
            (try simp only [Act.put, List.setIfInBounds_toArray, List.set_cons_zero, List.set_cons_succ])
            refine WQ.want (by rfl) (fun K hK => ?_)
            refine BigFrame.quiet_move _ rfl (hK _ ?_)
            clear hK K
            (try simp only [Act.put, List.setIfInBounds_toArray, List.set_cons_zero, List.set_cons_succ])
            refine WQ.want (by rfl) (fun K hK => ?_)
            refine BigFrame.quiet_move _ rfl (hK _ ?_)
            clear hK K
            (try simp only [Act.put, List.setIfInBounds_toArray, List.set_cons_zero, List.set_cons_succ])
            refine WQ.want (by rfl) (fun K hK => ?_)
            refine ⟨.int .i64 q, fun w' hw' => ?_, hK _ ?_⟩
            · obtain ⟨x0, x1, x3, x2⟩ := hw'
              go_simp
            clear hK K
            (try simp only [Act.put, List.setIfInBounds_toArray, List.set_cons_zero, List.set_cons_succ])
            refine WQ.want (by rfl) (fun K hK => ?_)
            refine ⟨.pointer (some ⟨b, off + q * 2, none⟩), fun w' hw' => ?_, hK _ ?_⟩
            · obtain ⟨x0, x1, x3, x2⟩ := hw'
              go_simp
            clear hK K
            (try simp only [Act.put, List.setIfInBounds_toArray, List.set_cons_zero, List.set_cons_succ])
            refine WQ.want (by rfl) (fun K hK => ?_)
            refine ⟨.pointer (some ⟨b, off + q * 2, none⟩), fun w' hw' => ?_, hK _ ?_⟩
            · obtain ⟨x0, x1, x3, x2⟩ := hw'
              go_simp
            clear hK K
            (try simp only [Act.put, List.setIfInBounds_toArray, List.set_cons_zero, List.set_cons_succ])
            refine WQ.want (by rfl) (fun K hK => ?_)
            refine ⟨.string (S u'.key), fun w' hw' => ?_, hK _ ?_⟩
            · obtain ⟨x0, x1, x3, x2⟩ := hw'
              go_simp
            clear hK K
            (try simp only [Act.put, List.setIfInBounds_toArray, List.set_cons_zero, List.set_cons_succ])
            refine WQ.want (by rfl) (fun K hK => ?_)
            refine ⟨.pointer (some ⟨wr.heap.size, 0, none⟩), fun w' hw' => ?_, hK _ ?_⟩
            · obtain ⟨x0, x1, x3, x2⟩ := hw'
              go_simp
            clear hK K
            (try simp only [Act.put, List.setIfInBounds_toArray, List.set_cons_zero, List.set_cons_succ])
            refine WQ.want (by rfl) (fun K hK => ?_)
            refine ⟨.string (S u.key), fun w' hw' => ?_, hK _ ?_⟩
            · obtain ⟨x0, x1, x3, x2⟩ := hw'
              go_simp
            clear hK K
            (try simp only [Act.put, List.setIfInBounds_toArray, List.set_cons_zero, List.set_cons_succ])
            refine WQ.want (by rfl) (fun K hK => ?_)
            refine ⟨.bool true, fun w' hw' => ?_, hK _ ?_⟩
            · obtain ⟨x0, x1, x3, x2⟩ := hw'
              go_simp
            clear hK K
            (try simp only [Act.put, List.setIfInBounds_toArray, List.set_cons_zero, List.set_cons_succ])
            refine WQ.want (by rfl) (fun K hK => ?_)
            refine ⟨.bool true, fun w' hw' => ?_, hK _ ?_⟩
            · obtain ⟨x0, x1, x3, x2⟩ := hw'
              go_simp
            clear hK K
            (try simp only [Act.put, List.setIfInBounds_toArray, List.set_cons_zero, List.set_cons_succ])
            refine WQ.want (by rfl) (fun K hK => ?_)
            refine ⟨.bool true, fun w' hw' => ?_, hK _ ?_⟩
            · obtain ⟨x0, x1, x3, x2⟩ := hw'
              go_simp
            clear hK K
            (try simp only [Act.put, List.setIfInBounds_toArray, List.set_cons_zero, List.set_cons_succ])
            refine WQ.done ?_
            rintro w6 ⟨-, -, -, hE⟩
            have p1 := kept_cell hE hp
            have pf1 := (hE.frozen (p := ⟨w.heap.size, 0, none⟩) hsz).trans hpf
            have hB6 := hB.trans (hE.mono (by omega))
            clear hE hp hpf
            go_wp2_with fail
            refine bodyPost_ret (v := .tuple #[.agg #[.slice none 0 0], .int .i64 2]) (by simp [results, Try.results26, go_sem, p1]) rfl ⟨?_, ?_⟩
            · rw [hbf.out]
              exact rfl
            · exact hB6.setCell (p := ⟨w.heap.size, 0, none⟩) (Nat.le_refl _) _
    · obtain rfl : j = l.length := by omega
      have hbt := Lib.hid (HBO.out.2 (by have := hR.out; rwa [List.take_length] at this))
      have HS2 := Lib.hid (HS.out.kept hB (Nat.le_refl _))
      go_wp2_with fail
      refine (thread (cloneE _ l wr HS2.out hl) wr.heap.size wr (Below.refl _ _) (Nat.le_refl _)).mono ?_
      rintro e w1 ⟨⟨v1, rfl, hown1⟩, hX1, hk1, hf1, -, hz1⟩
      obtain ⟨a1, c1, e1⟩ := own_form hown1
      subst e1
      have p1 := (hk1 w.heap.size 0 hsz).trans hp
      have pf1 := (hf1 w.heap.size 0 hsz).trans hpf
      have hB1 := hB.trans (hX1.mono (by omega))
      have HO1 := Lib.hid hown1
      clear hk1 hf1 hX1 hp hpf hown1
      go_wp2_with fail
      refine bodyPost_ret (v := .tuple #[.agg #[.slice a1 l.length c1], .int .i64 0]) (by simp [results, Try.results26, go_sem, p1]) rfl ⟨?_, ?_⟩
      · rw [hbt.out]
        exact ⟨a1, c1, rfl, own_base (ownsRow_setCell_other (a := ⟨w.heap.size, 0, none⟩) HO1.out (fun e => by have h := ((HO1.out).lt _ e).1; have h2 : wr.heap.size ≤ w.heap.size := h; omega) _) (by omega)⟩
      · exact hB1.setCell (p := ⟨w.heap.size, 0, none⟩) (Nat.le_refl _) _

end Go.Proofs.Ytcjeonamebnpfaa
