/-
  The walk of leaf.Of.
  The walks of the document's numbers: treenailref01.Get, treenailref14.On.
-/
import Derived.Test.YtafciefjlkdecaaGreatZg
import Derived.Test.YtafciefjlkdecaaGreatZe
import Derived.BigQuiet
import Derived.Deep.DrawnRows
namespace Go.Proofs.YtafciefjlkdecaaGreat
open Go.RowKit
attribute [local go_sem ↓] Go.wp_at_zero Go.wp_at_succ

/-- What leaf.Of tells. -/
def OfRes (B : Nat) (l : List Ent) : Bool → Ending → World → Prop
  | true, e, w' => ∃ a c, e = .returned (.tuple #[.agg #[.slice a l.length c], .int .i64 0]) ∧ w'.ownsRow B 73 2 (.slice a l.length c) l.length (cellsE l)
  | false, e, _ => e = .returned (.tuple #[.agg #[.slice none 0 0], .int .i64 2])

set_option maxRecDepth 100000 in
set_option maxHeartbeats 4000000 in
theorem leafOf_any (ao : Option Addr) (n c : Nat) (l : List Ent) (w : World) (hn : n = l.length) (hl : l.length ≤ 1000000) (hs : SlE w (.slice ao n c) l) :
    Calls Tryz.prog 113 #[.slice ao n c] w fun e w' => OfRes w.heap.size l (rightB l) e w' ∧ Below w.heap.size w w' := by
  subst hn
  have HBO := Lib.hid (rightB_iff l)
  have HS := Lib.hid hs
  generalize rightB l = bo at *
  obtain ⟨ao', c', e', hs0, -⟩ := hs
  simp only [Value.slice.injEq] at e'
  obtain ⟨rfl, -, rfl⟩ := e'
  have HS0 := Lib.hid hs0
  clear hs0
  go_enter Tryz.func113, Tryz.ntmps113
  go_wp2_with fail
  go_loopw [8] (fun i wr => ∃ j : Nat, i = .int .i64 j ∧ j ≤ l.length ∧ Hid (RightE (l.take j)) ∧ wr.cell? ⟨w.heap.size, 0, none⟩ = some (.slice none 0 0) ∧ wr.frozen? ⟨w.heap.size, 0, none⟩ = false ∧ w.heap.size < wr.heap.size ∧ Below w.heap.size w wr) (fun i _ => l.length - (intOf i).toNat)
  case atStart => exact ⟨0, rfl, Nat.zero_le _, Lib.hid right_nil, by simp, by simp, by simp, by go_grown⟩
  case round =>
    obtain ⟨j, rfl, hj, hR, hp, hpf, hsz, hB⟩ := hrel
    have hj0 : (0 : Int) ≤ (j : Int) := Int.natCast_nonneg _
    by_cases hjl : j < l.length
    · have hj1 : (j : Int) < (l.length : Int) := by omega
      have hst := Lib.hid (right_step l j hjl hR.out)
      have hno : Hid (¬ RightE (l.take (j + 1)) → bo = false) := Lib.hid fun h => by
        cases hbb : bo with
        | false => rfl
        | true => exact absurd (HBO.out.1 hbb) (right_not h)
      obtain ⟨b, off, rfl, hb, t0, t1⟩ := SlAt.cells2 HS0.out j hjl
      have q0 := (cell_below hB hb _).trans t0
      have q1 := (cell_below hB hb _).trans t1
      clear t0 t1
      cases hok : okB l[j] with
      | false =>
        have hbf := Lib.hid (hno.out (fun h => by have := (hst.out.1 h).1; rw [hok] at this; exact absurd this (by simp)))
        have hright := fun W => rightOne l[j].key l[j].val W
        rw [show okB (⟨l[j].key, l[j].val⟩ : Ent) = false from hok] at hright
        have HRT := Lib.hid hright
        clear hst hno hok hright
        generalize l[j] = u at *
        go_wp2_with fail
        refine WQ.region (C := fun w' => w'.cell? ⟨wr.heap.size, 0, none⟩ = some (.string (S u.key)) ∧ w'.cell? ⟨wr.heap.size, 1, none⟩ = some (.string (S u.val)) ∧ Below wr.heap.size wr w') (by kernel_rfl) (by kernel_rfl) (⟨cell_drew (by simp), cell_drew (by simp), by go_grown⟩) ?_
        refine WQ.want (by rfl) (fun K hK => ?_)
        refine ⟨.agg #[.string (S u.key), .string (S u.val)], fun w' hw' => ?_, hK _ ?_⟩
        · obtain ⟨x0, x1, x2⟩ := hw'
          go_simp
        clear hK K
        (try simp only [Act.put, List.setIfInBounds_toArray, List.set_cons_zero, List.set_cons_succ])
        refine WQ.want (by rfl) (fun K hK => ?_)
        refine ⟨.bool false, fun w' hw' => ?_, hK _ ?_⟩
        · obtain ⟨x0, x1, x2⟩ := hw'
          go_simp
          go_at_call 150
          refine (HRT.out _).mono ?_
          rintro e w6 ⟨he, hb6⟩
          exact ⟨he, kept_cell hb6 x0, kept_cell hb6 x1, x2.trans (hb6.mono x2.size)⟩
        clear hK K
        (try simp only [Act.put, List.setIfInBounds_toArray, List.set_cons_zero, List.set_cons_succ])
        refine WQ.want (by rfl) (fun K hK => ?_)
        refine ⟨.bool true, fun w' hw' => ?_, hK _ ?_⟩
        · obtain ⟨x0, x1, x2⟩ := hw'
          go_simp
        clear hK K
        (try simp only [Act.put, List.setIfInBounds_toArray, List.set_cons_zero, List.set_cons_succ])
        refine WQ.want (by rfl) (fun K hK => ?_)
        refine BigFrame.quiet_move _ rfl (hK _ ?_)
        clear hK K
        (try simp only [Act.put, List.setIfInBounds_toArray, List.set_cons_zero, List.set_cons_succ])
        refine WQ.skip (by rfl) ?_
        (try simp only [Act.put, List.setIfInBounds_toArray, List.set_cons_zero, List.set_cons_succ])
        refine WQ.skip (by rfl) ?_
        (try simp only [Act.put, List.setIfInBounds_toArray, List.set_cons_zero, List.set_cons_succ])
        refine WQ.skip (by rfl) ?_
        (try simp only [Act.put, List.setIfInBounds_toArray, List.set_cons_zero, List.set_cons_succ])
        refine WQ.skip (by rfl) ?_
        (try simp only [Act.put, List.setIfInBounds_toArray, List.set_cons_zero, List.set_cons_succ])
        refine WQ.skip (by rfl) ?_
        (try simp only [Act.put, List.setIfInBounds_toArray, List.set_cons_zero, List.set_cons_succ])
        refine WQ.skip (by rfl) ?_
        (try simp only [Act.put, List.setIfInBounds_toArray, List.set_cons_zero, List.set_cons_succ])
        refine WQ.skip (by rfl) ?_
        (try simp only [Act.put, List.setIfInBounds_toArray, List.set_cons_zero, List.set_cons_succ])
        refine WQ.skip (by rfl) ?_
        (try simp only [Act.put, List.setIfInBounds_toArray, List.set_cons_zero, List.set_cons_succ])
        refine WQ.skip (by rfl) ?_
        (try simp only [Act.put, List.setIfInBounds_toArray, List.set_cons_zero, List.set_cons_succ])
        refine WQ.skip (by rfl) ?_
        (try simp only [Act.put, List.setIfInBounds_toArray, List.set_cons_zero, List.set_cons_succ])
        refine WQ.skip (by rfl) ?_
        (try simp only [Act.put, List.setIfInBounds_toArray, List.set_cons_zero, List.set_cons_succ])
        refine WQ.skip (by rfl) ?_
        (try simp only [Act.put, List.setIfInBounds_toArray, List.set_cons_zero, List.set_cons_succ])
        refine WQ.skip (by rfl) ?_
        (try simp only [Act.put, List.setIfInBounds_toArray, List.set_cons_zero, List.set_cons_succ])
        refine WQ.want (by rfl) (fun K hK => ?_)
        refine ⟨.bool true, fun w' hw' => ?_, hK _ ?_⟩
        · obtain ⟨x0, x1, x2⟩ := hw'
          go_simp
        clear hK K
        (try simp only [Act.put, List.setIfInBounds_toArray, List.set_cons_zero, List.set_cons_succ])
        refine WQ.done ?_
        rintro w6 ⟨-, -, hE⟩
        have p1 := kept_cell hE hp
        have pf1 := (hE.frozen (p := ⟨w.heap.size, 0, none⟩) hsz).trans hpf
        have hB6 := hB.trans (hE.mono (by omega))
        clear hE hp hpf
        go_wp2_with fail
        refine bodyPost_ret (v := .tuple #[.agg #[.slice none 0 0], .int .i64 2]) (by simp [results, Tryz.results113, go_sem, p1]) rfl ⟨?_, ?_⟩
        · rw [hbf.out]
          exact rfl
        · exact hB6.setCell (p := ⟨w.heap.size, 0, none⟩) (Nat.le_refl _) _
      | true =>
        have hright := fun W => rightOne l[j].key l[j].val W
        rw [show okB (⟨l[j].key, l[j].val⟩ : Ent) = true from hok] at hright
        have HRT := Lib.hid hright
        clear hright
        rcases j with _ | q
        · have hR2 := Lib.hid (hst.out.2 ⟨hok, fun h => absurd h (by omega)⟩)
          clear hst hno hok
          generalize l[0] = u at *
          rw [show ((0 : Nat) : Int) = 0 from rfl] at hj1
          rw [Nat.zero_mul, Nat.add_zero] at q0 q1
          have hd : decide ((0 : Int) < 0) = false := rfl
          go_wp2_with fail
          refine WQ.region (C := fun w' => w'.cell? ⟨wr.heap.size, 0, none⟩ = some (.string (S u.key)) ∧ w'.cell? ⟨wr.heap.size, 1, none⟩ = some (.string (S u.val)) ∧ Below wr.heap.size wr w') (by kernel_rfl) (by kernel_rfl) (⟨cell_drew (by simp), cell_drew (by simp), by go_grown⟩) ?_
          refine WQ.want (by rfl) (fun K hK => ?_)
          refine ⟨.agg #[.string (S u.key), .string (S u.val)], fun w' hw' => ?_, hK _ ?_⟩
          · obtain ⟨x0, x1, x2⟩ := hw'
            go_simp
          clear hK K
          (try simp only [Act.put, List.setIfInBounds_toArray, List.set_cons_zero, List.set_cons_succ])
          refine WQ.want (by rfl) (fun K hK => ?_)
          refine ⟨.bool true, fun w' hw' => ?_, hK _ ?_⟩
          · obtain ⟨x0, x1, x2⟩ := hw'
            go_simp
            go_at_call 150
            refine (HRT.out _).mono ?_
            rintro e w6 ⟨he, hb6⟩
            exact ⟨he, kept_cell hb6 x0, kept_cell hb6 x1, x2.trans (hb6.mono x2.size)⟩
          clear hK K
          (try simp only [Act.put, List.setIfInBounds_toArray, List.set_cons_zero, List.set_cons_succ])
          refine WQ.want (by rfl) (fun K hK => ?_)
          refine ⟨.bool false, fun w' hw' => ?_, hK _ ?_⟩
          · obtain ⟨x0, x1, x2⟩ := hw'
            go_simp
          clear hK K
          (try simp only [Act.put, List.setIfInBounds_toArray, List.set_cons_zero, List.set_cons_succ])
          refine WQ.want (by rfl) (fun K hK => ?_)
          refine BigFrame.quiet_move _ rfl (hK _ ?_)
          clear hK K
          (try simp only [Act.put, List.setIfInBounds_toArray, List.set_cons_zero, List.set_cons_succ])
          refine WQ.want (by rfl) (fun K hK => ?_)
          refine BigFrame.quiet_move _ rfl (hK _ ?_)
          clear hK K
          (try simp only [Act.put, List.setIfInBounds_toArray, List.set_cons_zero, List.set_cons_succ])
          refine WQ.want (by rfl) (fun K hK => ?_)
          refine ⟨.bool false, fun w' hw' => ?_, hK _ ?_⟩
          · obtain ⟨x0, x1, x2⟩ := hw'
            go_simp
          clear hK K
          (try simp only [Act.put, List.setIfInBounds_toArray, List.set_cons_zero, List.set_cons_succ])
          refine WQ.want (by rfl) (fun K hK => ?_)
          refine BigFrame.quiet_move _ rfl (hK _ ?_)
          clear hK K
          (try simp only [Act.put, List.setIfInBounds_toArray, List.set_cons_zero, List.set_cons_succ])
          refine WQ.skip (by rfl) ?_
          (try simp only [Act.put, List.setIfInBounds_toArray, List.set_cons_zero, List.set_cons_succ])
          refine WQ.skip (by rfl) ?_
          (try simp only [Act.put, List.setIfInBounds_toArray, List.set_cons_zero, List.set_cons_succ])
          refine WQ.skip (by rfl) ?_
          (try simp only [Act.put, List.setIfInBounds_toArray, List.set_cons_zero, List.set_cons_succ])
          refine WQ.skip (by rfl) ?_
          (try simp only [Act.put, List.setIfInBounds_toArray, List.set_cons_zero, List.set_cons_succ])
          refine WQ.skip (by rfl) ?_
          (try simp only [Act.put, List.setIfInBounds_toArray, List.set_cons_zero, List.set_cons_succ])
          refine WQ.skip (by rfl) ?_
          (try simp only [Act.put, List.setIfInBounds_toArray, List.set_cons_zero, List.set_cons_succ])
          refine WQ.skip (by rfl) ?_
          (try simp only [Act.put, List.setIfInBounds_toArray, List.set_cons_zero, List.set_cons_succ])
          refine WQ.skip (by rfl) ?_
          (try simp only [Act.put, List.setIfInBounds_toArray, List.set_cons_zero, List.set_cons_succ])
          refine WQ.skip (by rfl) ?_
          (try simp only [Act.put, List.setIfInBounds_toArray, List.set_cons_zero, List.set_cons_succ])
          refine WQ.want (by rfl) (fun K hK => ?_)
          refine ⟨.bool false, fun w' hw' => ?_, hK _ ?_⟩
          · obtain ⟨x0, x1, x2⟩ := hw'
            go_simp
          clear hK K
          (try simp only [Act.put, List.setIfInBounds_toArray, List.set_cons_zero, List.set_cons_succ])
          refine WQ.want (by rfl) (fun K hK => ?_)
          refine ⟨.bool false, fun w' hw' => ?_, hK _ ?_⟩
          · obtain ⟨x0, x1, x2⟩ := hw'
            go_simp
          clear hK K
          (try simp only [Act.put, List.setIfInBounds_toArray, List.set_cons_zero, List.set_cons_succ])
          refine WQ.done ?_
          rintro w6 ⟨-, -, hE⟩
          have p1 := kept_cell hE hp
          have pf1 := (hE.frozen (p := ⟨w.heap.size, 0, none⟩) hsz).trans hpf
          have hB6 := hB.trans (hE.mono (by omega))
          have hs6 : w.heap.size < w6.heap.size := Nat.lt_of_lt_of_le hsz hE.size
          clear hE hp hpf
          go_wp2_with fail
          exact ⟨⟨1, by go_num, by omega, hR2, p1, pf1, hs6, hB6⟩, by simp [intOf]; omega⟩
        · obtain ⟨b', off', e', hb', t0', t1'⟩ := SlAt.cells2 HS0.out q (by omega)
          simp only [Option.some.injEq, Addr.mk.injEq] at e'
          obtain ⟨rfl, rfl, -⟩ := e'
          have q2 := (cell_below hB hb _).trans t0'
          have hq0 : (0 : Int) ≤ (q : Int) := Int.natCast_nonneg _
          have hq1 : (q : Int) < (l.length : Int) := by omega
          have hw1 : IntKind.i64.wrap (q : Int) = (q : Int) := IntWalk.i64_in _ (by omega)
          have hd : decide ((0 : Int) < (q : Int) + 1) = true := by rw [decide_eq_true_iff]; omega
          clear t0' t1'
          cases hlt : bl l[q].key l[q + 1].key with
          | true =>
            have hR2 := Lib.hid (hst.out.2 ⟨hok, fun h => hlt⟩)
            clear hst hno hok
            have hlt' : Op.bytesLess l[q].key l[q + 1].key = true := hlt
            clear hlt
            generalize l[q + 1] = u at *
            generalize l[q] = u' at *
            go_wp2_with fail
            refine WQ.region (C := fun w' => w'.cell? ⟨wr.heap.size, 0, none⟩ = some (.string (S u.key)) ∧ w'.cell? ⟨wr.heap.size, 1, none⟩ = some (.string (S u.val)) ∧ w'.cell? ⟨b, off + q * 2, none⟩ = some (.string (S u'.key)) ∧ Below wr.heap.size wr w') (by kernel_rfl) (by kernel_rfl) (⟨cell_drew (by simp), cell_drew (by simp), cell_drew (cell_past _ q2), by go_grown⟩) ?_
            refine WQ.want (by rfl) (fun K hK => ?_)
            refine ⟨.agg #[.string (S u.key), .string (S u.val)], fun w' hw' => ?_, hK _ ?_⟩
            · obtain ⟨x0, x1, x3, x2⟩ := hw'
              go_simp
            clear hK K
            (try simp only [Act.put, List.setIfInBounds_toArray, List.set_cons_zero, List.set_cons_succ])
            refine WQ.want (by rfl) (fun K hK => ?_)
            refine ⟨.bool true, fun w' hw' => ?_, hK _ ?_⟩
            · obtain ⟨x0, x1, x3, x2⟩ := hw'
              go_simp
              go_at_call 150
              refine (HRT.out _).mono ?_
              rintro e w6 ⟨he, hb6⟩
              exact ⟨he, kept_cell hb6 x0, kept_cell hb6 x1, kept_cell hb6 x3, x2.trans (hb6.mono x2.size)⟩
            clear hK K
            (try simp only [Act.put, List.setIfInBounds_toArray, List.set_cons_zero, List.set_cons_succ])
            refine WQ.want (by rfl) (fun K hK => ?_)
            refine ⟨.bool false, fun w' hw' => ?_, hK _ ?_⟩
            · obtain ⟨x0, x1, x3, x2⟩ := hw'
              go_simp
            clear hK K
            (try simp only [Act.put, List.setIfInBounds_toArray, List.set_cons_zero, List.set_cons_succ])
            refine WQ.want (by rfl) (fun K hK => ?_)
            refine BigFrame.quiet_move _ rfl (hK _ ?_)
            clear hK K
            (try simp only [Act.put, List.setIfInBounds_toArray, List.set_cons_zero, List.set_cons_succ])
            refine WQ.want (by rfl) (fun K hK => ?_)
            refine BigFrame.quiet_move _ rfl (hK _ ?_)
            clear hK K
            (try simp only [Act.put, List.setIfInBounds_toArray, List.set_cons_zero, List.set_cons_succ])
            refine WQ.want (by rfl) (fun K hK => ?_)
            refine ⟨.bool true, fun w' hw' => ?_, hK _ ?_⟩
            · obtain ⟨x0, x1, x3, x2⟩ := hw'
              go_simp
            clear hK K
            (try simp only [Act.put, List.setIfInBounds_toArray, List.set_cons_zero, List.set_cons_succ])
            refine WQ.want (by rfl) (fun K hK => ?_)
            refine BigFrame.quiet_move _ rfl (hK _ ?_)
            clear hK K
            (try simp only [Act.put, List.setIfInBounds_toArray, List.set_cons_zero, List.set_cons_succ])
            refine WQ.want (by rfl) (fun K hK => ?_)
            refine BigFrame.quiet_move _ rfl (hK _ ?_)
            clear hK K
            (try simp only [Act.put, List.setIfInBounds_toArray, List.set_cons_zero, List.set_cons_succ])
            refine WQ.want (by rfl) (fun K hK => ?_)
            refine BigFrame.quiet_move _ rfl (hK _ ?_)
            clear hK K
            (try simp only [Act.put, List.setIfInBounds_toArray, List.set_cons_zero, List.set_cons_succ])
            refine WQ.want (by rfl) (fun K hK => ?_)
            refine ⟨.int .i64 q, fun w' hw' => ?_, hK _ ?_⟩
            · obtain ⟨x0, x1, x3, x2⟩ := hw'
              go_simp
            clear hK K
            (try simp only [Act.put, List.setIfInBounds_toArray, List.set_cons_zero, List.set_cons_succ])
            refine WQ.want (by rfl) (fun K hK => ?_)
            refine ⟨.pointer (some ⟨b, off + q * 2, none⟩), fun w' hw' => ?_, hK _ ?_⟩
            · obtain ⟨x0, x1, x3, x2⟩ := hw'
              go_simp
            clear hK K
            (try simp only [Act.put, List.setIfInBounds_toArray, List.set_cons_zero, List.set_cons_succ])
            refine WQ.want (by rfl) (fun K hK => ?_)
            refine ⟨.pointer (some ⟨b, off + q * 2, none⟩), fun w' hw' => ?_, hK _ ?_⟩
            · obtain ⟨x0, x1, x3, x2⟩ := hw'
              go_simp
            clear hK K
            (try simp only [Act.put, List.setIfInBounds_toArray, List.set_cons_zero, List.set_cons_succ])
            refine WQ.want (by rfl) (fun K hK => ?_)
            refine ⟨.string (S u'.key), fun w' hw' => ?_, hK _ ?_⟩
            · obtain ⟨x0, x1, x3, x2⟩ := hw'
              go_simp
            clear hK K
            (try simp only [Act.put, List.setIfInBounds_toArray, List.set_cons_zero, List.set_cons_succ])
            refine WQ.want (by rfl) (fun K hK => ?_)
            refine ⟨.pointer (some ⟨wr.heap.size, 0, none⟩), fun w' hw' => ?_, hK _ ?_⟩
            · obtain ⟨x0, x1, x3, x2⟩ := hw'
              go_simp
            clear hK K
            (try simp only [Act.put, List.setIfInBounds_toArray, List.set_cons_zero, List.set_cons_succ])
            refine WQ.want (by rfl) (fun K hK => ?_)
            refine ⟨.string (S u.key), fun w' hw' => ?_, hK _ ?_⟩
            · obtain ⟨x0, x1, x3, x2⟩ := hw'
              go_simp
            clear hK K
            (try simp only [Act.put, List.setIfInBounds_toArray, List.set_cons_zero, List.set_cons_succ])
            refine WQ.want (by rfl) (fun K hK => ?_)
            refine ⟨.bool false, fun w' hw' => ?_, hK _ ?_⟩
            · obtain ⟨x0, x1, x3, x2⟩ := hw'
              go_simp
            clear hK K
            (try simp only [Act.put, List.setIfInBounds_toArray, List.set_cons_zero, List.set_cons_succ])
            refine WQ.want (by rfl) (fun K hK => ?_)
            refine ⟨.bool false, fun w' hw' => ?_, hK _ ?_⟩
            · obtain ⟨x0, x1, x3, x2⟩ := hw'
              go_simp
            clear hK K
            (try simp only [Act.put, List.setIfInBounds_toArray, List.set_cons_zero, List.set_cons_succ])
            refine WQ.want (by rfl) (fun K hK => ?_)
            refine ⟨.bool false, fun w' hw' => ?_, hK _ ?_⟩
            · obtain ⟨x0, x1, x3, x2⟩ := hw'
              go_simp
            clear hK K
            (try simp only [Act.put, List.setIfInBounds_toArray, List.set_cons_zero, List.set_cons_succ])
            refine WQ.done ?_
            rintro w6 ⟨-, -, -, hE⟩
            have p1 := kept_cell hE hp
            have pf1 := (hE.frozen (p := ⟨w.heap.size, 0, none⟩) hsz).trans hpf
            have hB6 := hB.trans (hE.mono (by omega))
            have hs6 : w.heap.size < w6.heap.size := Nat.lt_of_lt_of_le hsz hE.size
            clear hE hp hpf
            go_wp2_with fail
            exact ⟨⟨q + 2, by go_num, by omega, hR2, p1, pf1, hs6, hB6⟩, by simp [intOf]; omega⟩
          | false =>
            have hbf := Lib.hid (hno.out (fun h => by have this : bl l[q].key l[q + 1].key = true := (hst.out.1 h).2 (by omega); rw [hlt] at this; exact absurd this (by simp)))
            clear hst hno hok
            have hlt' : Op.bytesLess l[q].key l[q + 1].key = false := hlt
            clear hlt
            generalize l[q + 1] = u at *
            generalize l[q] = u' at *
            go_wp2_with fail
            refine WQ.region (C := fun w' => w'.cell? ⟨wr.heap.size, 0, none⟩ = some (.string (S u.key)) ∧ w'.cell? ⟨wr.heap.size, 1, none⟩ = some (.string (S u.val)) ∧ w'.cell? ⟨b, off + q * 2, none⟩ = some (.string (S u'.key)) ∧ Below wr.heap.size wr w') (by kernel_rfl) (by kernel_rfl) (⟨cell_drew (by simp), cell_drew (by simp), cell_drew (cell_past _ q2), by go_grown⟩) ?_
            refine WQ.want (by rfl) (fun K hK => ?_)
            refine ⟨.agg #[.string (S u.key), .string (S u.val)], fun w' hw' => ?_, hK _ ?_⟩
            · obtain ⟨x0, x1, x3, x2⟩ := hw'
              go_simp
            clear hK K
            (try simp only [Act.put, List.setIfInBounds_toArray, List.set_cons_zero, List.set_cons_succ])
            refine WQ.want (by rfl) (fun K hK => ?_)
            refine ⟨.bool true, fun w' hw' => ?_, hK _ ?_⟩
            · obtain ⟨x0, x1, x3, x2⟩ := hw'
              go_simp
              go_at_call 150
              refine (HRT.out _).mono ?_
              rintro e w6 ⟨he, hb6⟩
              exact ⟨he, kept_cell hb6 x0, kept_cell hb6 x1, kept_cell hb6 x3, x2.trans (hb6.mono x2.size)⟩
            clear hK K
            (try simp only [Act.put, List.setIfInBounds_toArray, List.set_cons_zero, List.set_cons_succ])
            refine WQ.want (by rfl) (fun K hK => ?_)
            refine ⟨.bool false, fun w' hw' => ?_, hK _ ?_⟩
            · obtain ⟨x0, x1, x3, x2⟩ := hw'
              go_simp
            clear hK K
            (try simp only [Act.put, List.setIfInBounds_toArray, List.set_cons_zero, List.set_cons_succ])
            refine WQ.want (by rfl) (fun K hK => ?_)
            refine BigFrame.quiet_move _ rfl (hK _ ?_)
            clear hK K
            (try simp only [Act.put, List.setIfInBounds_toArray, List.set_cons_zero, List.set_cons_succ])
            refine WQ.want (by rfl) (fun K hK => ?_)
            refine BigFrame.quiet_move _ rfl (hK _ ?_)
            clear hK K
            (try simp only [Act.put, List.setIfInBounds_toArray, List.set_cons_zero, List.set_cons_succ])
            refine WQ.want (by rfl) (fun K hK => ?_)
            refine ⟨.bool true, fun w' hw' => ?_, hK _ ?_⟩
            · obtain ⟨x0, x1, x3, x2⟩ := hw'
              go_simp
            clear hK K
            (try simp only [Act.put, List.setIfInBounds_toArray, List.set_cons_zero, List.set_cons_succ])
            refine WQ.want (by rfl) (fun K hK => ?_)
            refine BigFrame.quiet_move _ rfl (hK _ ?_)
            clear hK K
            (try simp only [Act.put, List.setIfInBounds_toArray, List.set_cons_zero, List.set_cons_succ])
            refine WQ.want (by rfl) (fun K hK => ?_)
            refine BigFrame.quiet_move _ rfl (hK _ ?_)
            clear hK K
            (try simp only [Act.put, List.setIfInBounds_toArray, List.set_cons_zero, List.set_cons_succ])
            refine WQ.want (by rfl) (fun K hK => ?_)
            refine BigFrame.quiet_move _ rfl (hK _ ?_)
            clear hK K
            (try simp only [Act.put, List.setIfInBounds_toArray, List.set_cons_zero, List.set_cons_succ])
            refine WQ.want (by rfl) (fun K hK => ?_)
            refine ⟨.int .i64 q, fun w' hw' => ?_, hK _ ?_⟩
            · obtain ⟨x0, x1, x3, x2⟩ := hw'
              go_simp
            clear hK K
            (try simp only [Act.put, List.setIfInBounds_toArray, List.set_cons_zero, List.set_cons_succ])
            refine WQ.want (by rfl) (fun K hK => ?_)
            refine ⟨.pointer (some ⟨b, off + q * 2, none⟩), fun w' hw' => ?_, hK _ ?_⟩
            · obtain ⟨x0, x1, x3, x2⟩ := hw'
              go_simp
            clear hK K
            (try simp only [Act.put, List.setIfInBounds_toArray, List.set_cons_zero, List.set_cons_succ])
            refine WQ.want (by rfl) (fun K hK => ?_)
            refine ⟨.pointer (some ⟨b, off + q * 2, none⟩), fun w' hw' => ?_, hK _ ?_⟩
            · obtain ⟨x0, x1, x3, x2⟩ := hw'
              go_simp
            clear hK K
            (try simp only [Act.put, List.setIfInBounds_toArray, List.set_cons_zero, List.set_cons_succ])
            refine WQ.want (by rfl) (fun K hK => ?_)
            refine ⟨.string (S u'.key), fun w' hw' => ?_, hK _ ?_⟩
            · obtain ⟨x0, x1, x3, x2⟩ := hw'
              go_simp
            clear hK K
            (try simp only [Act.put, List.setIfInBounds_toArray, List.set_cons_zero, List.set_cons_succ])
            refine WQ.want (by rfl) (fun K hK => ?_)
            refine ⟨.pointer (some ⟨wr.heap.size, 0, none⟩), fun w' hw' => ?_, hK _ ?_⟩
            · obtain ⟨x0, x1, x3, x2⟩ := hw'
              go_simp
            clear hK K
            (try simp only [Act.put, List.setIfInBounds_toArray, List.set_cons_zero, List.set_cons_succ])
            refine WQ.want (by rfl) (fun K hK => ?_)
            refine ⟨.string (S u.key), fun w' hw' => ?_, hK _ ?_⟩
            · obtain ⟨x0, x1, x3, x2⟩ := hw'
              go_simp
            clear hK K
            (try simp only [Act.put, List.setIfInBounds_toArray, List.set_cons_zero, List.set_cons_succ])
            refine WQ.want (by rfl) (fun K hK => ?_)
            refine ⟨.bool true, fun w' hw' => ?_, hK _ ?_⟩
            · obtain ⟨x0, x1, x3, x2⟩ := hw'
              go_simp
            clear hK K
            (try simp only [Act.put, List.setIfInBounds_toArray, List.set_cons_zero, List.set_cons_succ])
            refine WQ.want (by rfl) (fun K hK => ?_)
            refine ⟨.bool true, fun w' hw' => ?_, hK _ ?_⟩
            · obtain ⟨x0, x1, x3, x2⟩ := hw'
              go_simp
            clear hK K
            (try simp only [Act.put, List.setIfInBounds_toArray, List.set_cons_zero, List.set_cons_succ])
            refine WQ.want (by rfl) (fun K hK => ?_)
            refine ⟨.bool true, fun w' hw' => ?_, hK _ ?_⟩
            · obtain ⟨x0, x1, x3, x2⟩ := hw'
              go_simp
            clear hK K
            (try simp only [Act.put, List.setIfInBounds_toArray, List.set_cons_zero, List.set_cons_succ])
            refine WQ.done ?_
            rintro w6 ⟨-, -, -, hE⟩
            have p1 := kept_cell hE hp
            have pf1 := (hE.frozen (p := ⟨w.heap.size, 0, none⟩) hsz).trans hpf
            have hB6 := hB.trans (hE.mono (by omega))
            clear hE hp hpf
            go_wp2_with fail
            refine bodyPost_ret (v := .tuple #[.agg #[.slice none 0 0], .int .i64 2]) (by simp [results, Tryz.results113, go_sem, p1]) rfl ⟨?_, ?_⟩
            · rw [hbf.out]
              exact rfl
            · exact hB6.setCell (p := ⟨w.heap.size, 0, none⟩) (Nat.le_refl _) _
    · obtain rfl : j = l.length := by omega
      have hbt := Lib.hid (HBO.out.2 (by have := hR.out; rwa [List.take_length] at this))
      have HS2 := Lib.hid (HS.out.kept hB (Nat.le_refl _))
      go_wp2_with fail
      refine (thread (cloneE _ l wr HS2.out hl) wr.heap.size wr (Below.refl _ _) (Nat.le_refl _)).mono ?_
      rintro e w1 ⟨⟨v1, rfl, hown1⟩, hX1, hk1, hf1, -, hz1⟩
      obtain ⟨a1, c1, e1⟩ := own_form hown1
      subst e1
      have p1 := (hk1 w.heap.size 0 hsz).trans hp
      have pf1 := (hf1 w.heap.size 0 hsz).trans hpf
      have hB1 := hB.trans (hX1.mono (by omega))
      have HO1 := Lib.hid hown1
      clear hk1 hf1 hX1 hp hpf hown1
      go_wp2_with fail
      refine bodyPost_ret (v := .tuple #[.agg #[.slice a1 l.length c1], .int .i64 0]) (by simp [results, Tryz.results113, go_sem, p1]) rfl ⟨?_, ?_⟩
      · rw [hbt.out]
        exact ⟨a1, c1, rfl, own_base (ownsRow_setCell_other (a := ⟨w.heap.size, 0, none⟩) HO1.out (fun e => by have h := ((HO1.out).lt _ e).1; have h2 : wr.heap.size ≤ w.heap.size := h; omega) _) (by omega)⟩
      · exact hB1.setCell (p := ⟨w.heap.size, 0, none⟩) (Nat.le_refl _) _

end Go.Proofs.YtafciefjlkdecaaGreat

namespace Go.Proofs.YtafciefjlkdecaaGreat
open Go.RowKit

end Go.Proofs.YtafciefjlkdecaaGreat

namespace Go.Proofs.YtafciefjlkdecaaGreat
open Go.RowKit

theorem lookE_cons (e : Ent) (l : List Ent) (k : List UInt8) : lookE (e :: l) k = if e.key = k then some e.val else lookE l k := by
  unfold lookE
  rw [List.find?_cons]
  by_cases h : e.key = k
  · simp [h]
  · have : (e.key == k) = false := by simpa using h
    simp [h, this]

set_option maxHeartbeats 2000000 in
theorem refEGet_any (ao : Option Addr) (c : Nat) (l : List Ent) (k : List UInt8) (w : World) (hl : l.length ≤ 1000000) (hs : SlAt Ent.cells 2 w ao l) :
    Calls Tryz.prog 26 #[.slice ao l.length c, .string (S k)] w fun e w' => e = .returned (valV (lookE l k)) ∧ Below w.heap.size w w' := by
  go_enter Tryz.func26, Tryz.ntmps26
  go_wp2_with fail
  go_loopw [6] (fun i wr => ∃ j : Nat, i = .int .i64 j ∧ j ≤ l.length ∧ Hid (lookE (l.drop j) k = lookE l k) ∧ Below w.heap.size w wr) (fun i _ => l.length - (intOf i).toNat)
  case atStart => exact ⟨0, rfl, Nat.zero_le _, Lib.hid rfl, Below.refl _ _⟩
  case round =>
    obtain ⟨j, rfl, hj, hlook, hB⟩ := hrel
    have hj0 : (0 : Int) ≤ (j : Int) := Int.natCast_nonneg _
    by_cases hjl : j < l.length
    · have hj1 : (j : Int) < (l.length : Int) := by omega
      obtain ⟨b, off, rfl, hb, t0, t1⟩ := SlAt.cells2 hs j hjl
      have q0 := (cell_below hB hb _).trans t0
      have q1 := (cell_below hB hb _).trans t1
      have hdr : l.drop j = l[j] :: l.drop (j + 1) := List.drop_eq_getElem_cons hjl
      have hlk := hlook.out
      rw [hdr, lookE_cons] at hlk
      have hlk' := Lib.hid hlk
      clear t0 t1 hdr hlk hs
      generalize l[j] = u at *
      by_cases hk : u.key = k
      · have hke : Hid (lookE l k = some u.val) := Lib.hid (by rw [← hlk'.out, if_pos hk])
        subst hk
        clear hlk'
        go_wp2_with fail
        exact bodyPost_ret (v := valV (some u.val)) (by simp [results, Tryz.results26, go_sem, valV]) rfl ⟨by rw [hke.out], hB⟩
      · have hkb : (u.key == k) = false := by simpa using hk
        have hke := Lib.hid (show lookE (l.drop (j + 1)) k = lookE l k by rw [← hlk'.out, if_neg hk])
        go_wp2_with fail
        exact ⟨⟨j + 1, by go_num, by omega, hke, hB⟩, by simp [intOf]; omega⟩
    · obtain rfl : j = l.length := by omega
      have hke : Hid (lookE l k = none) := Lib.hid (by rw [← hlook.out, List.drop_length]; rfl)
      go_wp2_with fail
      exact bodyPost_ret (v := valV none) (by simp [results, Tryz.results26, go_sem, valV]; rfl) rfl ⟨by rw [hke.out], hB⟩

end Go.Proofs.YtafciefjlkdecaaGreat

namespace Go.Proofs.YtafciefjlkdecaaGreat
open Go.RowKit

/-- One entry in the document's loop. -/
def refStep (x : Ent) (st : List Ent × Bool) (e : Ent) : List Ent × Bool :=
  let s1 := if st.2 = false ∧ bl e.key x.key = false then (st.1 ++ [x], true) else st
  if e.key = x.key then s1 else (s1.1 ++ [e], s1.2)
def refFold (x : Ent) (st : List Ent × Bool) (l : List Ent) : List Ent × Bool := l.foldl (refStep x) st
theorem refFold_snoc (x : Ent) (st : List Ent × Bool) (l : List Ent) (j : Nat) (hj : j < l.length) : refFold x st (l.take (j + 1)) = refStep x (refFold x st (l.take j)) l[j] := by
  unfold refFold
  rw [List.take_succ_eq_append_getElem hj, List.foldl_append]
  rfl
theorem refStep_len (x : Ent) (st : List Ent × Bool) (e : Ent) : (refStep x st e).1.length ≤ st.1.length + 2 := by
  unfold refStep
  dsimp only
  split <;> split <;> simp
theorem refFold_len (x : Ent) : ∀ (l : List Ent) (st : List Ent × Bool), (refFold x st l).1.length ≤ st.1.length + 2 * l.length
  | [], st => by simp [refFold]
  | e :: l, st => by
    have h1 := refFold_len x l (refStep x st e)
    have h2 := refStep_len x st e
    have h3 : refFold x st (e :: l) = refFold x (refStep x st e) l := rfl
    rw [h3, List.length_cons]
    omega
theorem refFold_done (x : Ent) : ∀ (l out : List Ent), refFold x (out, true) l = (out ++ l.filter (fun e => e.key != x.key), true)
  | [], out => by simp [refFold]
  | e :: l, out => by
    have h3 : refFold x (out, true) (e :: l) = refFold x (refStep x (out, true) e) l := rfl
    rw [h3]
    unfold refStep
    by_cases hk : e.key = x.key
    · simp only [hk, if_true, Bool.true_eq_false, false_and, if_false]
      rw [refFold_done x l out]
      simp [hk]
    · simp only [hk, if_false, Bool.true_eq_false, false_and]
      rw [refFold_done x l (out ++ [e])]
      simp [hk]
theorem below_cons (e : Ent) (l : List Ent) (k : List UInt8) : below Ent.key (e :: l) k = if bl e.key k = true then below Ent.key l k + 1 else below Ent.key l k := by
  unfold below
  rw [List.countP_cons]
  split <;> simp
theorem below_none {e : Ent} {l : List Ent} (hr : Rising Ent.key (e :: l)) (k : List UInt8) (h : bl e.key k = false) : below Ent.key l k = 0 := by
  unfold below
  rw [List.countP_eq_zero]
  intro a ha hb
  have := bl_trans (hr.cons.1 a ha) hb
  rw [h] at this
  exact absurd this (by simp)
theorem refFold_open (x : Ent) : ∀ (l out : List Ent), Rising Ent.key l → refFold x (out, false) l = if below Ent.key l x.key < l.length then (out ++ l.take (below Ent.key l x.key) ++ x :: (l.drop (below Ent.key l x.key)).filter (fun e => e.key != x.key), true) else (out ++ l, false)
  | [], out, _ => by simp [refFold, below]
  | e :: l, out, hr => by
    have h3 : refFold x (out, false) (e :: l) = refFold x (refStep x (out, false) e) l := rfl
    rw [h3, below_cons]
    cases hb : bl e.key x.key with
    | true =>
      have hk : ¬ e.key = x.key := bl_ne hb
      have hs : refStep x (out, false) e = (out ++ [e], false) := by
        unfold refStep
        simp [hb, hk]
      rw [hs, refFold_open x l (out ++ [e]) hr.cons.2]
      simp only [if_true, List.length_cons, Nat.add_lt_add_iff_right, List.take_succ_cons, List.drop_succ_cons]
      split <;> simp
    | false =>
      have h0 := below_none hr x.key hb
      simp only [Bool.false_eq_true, if_false, h0]
      rw [if_pos (by simp)]
      by_cases hk : e.key = x.key
      · have hs : refStep x (out, false) e = (out ++ [x], true) := by
          unfold refStep
          simp [hk, bl_irrefl]
        rw [hs, refFold_done]
        simp [hk]
      · have hs : refStep x (out, false) e = (out ++ [x] ++ [e], true) := by
          unfold refStep
          simp [hb, hk]
        rw [hs, refFold_done]
        simp [hk]
/-- What the document's On makes of entries, told by its value and whether there is one. -/
def refOut (l : List Ent) (x : Ent) (is : Bool) : List Ent :=
  let st := refFold x ([], !is) l
  if st.2 then st.1 else st.1 ++ [x]
theorem filter_none {l : List Ent} {k : List UInt8} (h : ∀ e ∈ l, e.key ≠ k) : l.filter (fun e => e.key != k) = l := by
  rw [List.filter_eq_self]
  intro e he
  simpa using h e he
theorem filter_at {l : List Ent} (hr : Rising Ent.key l) (i : Nat) (hi : i < l.length) (k : List UInt8) (hk : l[i].key = k) : l.filter (fun e => e.key != k) = l.take i ++ l.drop (i + 1) := by
  have h1 : (l.take i).filter (fun e => e.key != k) = l.take i := filter_none fun e he => by
    obtain ⟨j, hj, rfl⟩ := List.getElem_of_mem he
    rw [List.length_take] at hj
    rw [List.getElem_take, ← hk]
    exact bl_ne (hr.lt (show j < i by omega) hi)
  have h2 : (l.drop (i + 1)).filter (fun e => e.key != k) = l.drop (i + 1) := filter_none fun e he => by
    obtain ⟨j, hj, rfl⟩ := List.getElem_of_mem he
    rw [List.length_drop] at hj
    rw [List.getElem_drop, ← hk]
    exact fun hk => bl_ne (hr.lt (show i < i + 1 + j by omega) (by omega)) hk.symm
  have h3 : (l.drop i).filter (fun e => e.key != k) = (l.drop (i + 1)).filter (fun e => e.key != k) := by
    rw [List.drop_eq_getElem_cons hi, List.filter_cons_of_neg (by simp [hk])]
  have h4 : l.filter (fun e => e.key != k) = (l.take i ++ l.drop i).filter (fun e => e.key != k) := by rw [List.take_append_drop]
  rw [h4, List.filter_append, h1, h3, h2]
/-- The document's way and the leaf's are one. -/
theorem refOut_is {l : List Ent} (hr : Rising Ent.key l) (u : Upd) (hc : u.check = 0) : refOut l ⟨u.key, (newE l u).1⟩ (newE l u).2 = onE l u := by
  have hc' : ¬ u.check ≠ 0 := by simp [hc]
  unfold onE
  rw [if_neg hc']
  generalize (newE l u).1 = y
  unfold refOut
  cases hh : hasKey Ent.key l u.key with
  | false =>
    have hno := hasKeyE_not hh
    cases hi : (newE l u).2 with
    | false =>
      have := refFold_done ⟨u.key, y⟩ l []
      simp only [Bool.not_false, this, if_true, List.nil_append]
      simp [filter_none hno]
    | true =>
      have := refFold_open ⟨u.key, y⟩ l [] hr
      simp only [Bool.not_true, this]
      have hf : (l.drop (below Ent.key l u.key)).filter (fun e => e.key != u.key) = l.drop (below Ent.key l u.key) := filter_none fun e he => hno e (List.mem_of_mem_drop he)
      split
      · simp [insE, hf]
      · rename_i hb
        have hle := below_le (key := Ent.key) l u.key
        have hbl : below Ent.key l u.key = l.length := by omega
        simp [insE, hbl]
  | true =>
    obtain ⟨hlt, hkey⟩ := (hr.found u.key).1 hh
    have hfa := filter_at hr _ hlt _ hkey
    cases hi : (newE l u).2 with
    | false =>
      have := refFold_done ⟨u.key, y⟩ l []
      simp only [Bool.not_false, this, if_true, List.nil_append]
      simp [hfa, delE]
    | true =>
      have := refFold_open ⟨u.key, y⟩ l [] hr
      simp only [Bool.not_true, this]
      have hd : (l.drop (below Ent.key l u.key)).filter (fun e => e.key != u.key) = l.drop (below Ent.key l u.key + 1) := by
        have h1 : (l.take (below Ent.key l u.key)).filter (fun e => e.key != u.key) = l.take (below Ent.key l u.key) := filter_none fun e he => by
          obtain ⟨j, hj, rfl⟩ := List.getElem_of_mem he
          rw [List.length_take] at hj
          rw [List.getElem_take]
          exact bl_ne ((hr.below u.key j (by omega)).2 (by omega))
        have h4 : l.filter (fun e => e.key != u.key) = (l.take (below Ent.key l u.key) ++ l.drop (below Ent.key l u.key)).filter (fun e => e.key != u.key) := by rw [List.take_append_drop]
        rw [h4, List.filter_append, h1] at hfa
        exact List.append_cancel_left hfa
      simp only [hlt, if_true, List.nil_append, hd]
      rw [List.set_eq_take_append_cons_drop, if_pos hlt]

end Go.Proofs.YtafciefjlkdecaaGreat

namespace Go.Proofs.YtafciefjlkdecaaGreat
open Go.RowKit

theorem infoR : (Tryz.prog.info? 72).map (fun i => (i.zero, i.size, i.bytes)) = some (some (.agg #[.string ByteArray.empty, .string ByteArray.empty]), 2, 32) := by kernel_rfl
/-- Entries in a row of the call's own, whatever the elements' type is called. -/
theorem SlE.of_row {w : World} {B n : Nat} {E : TypeId} {v : Value} {l : List Ent} (h : w.ownsRow B E 2 v n (cellsE l)) : l.length = n ∧ SlE w v l := by
  have hn : l.length = n := by have := h.1; rw [cellsE_len] at this; omega
  refine ⟨hn, ?_⟩
  subst hn
  rcases ownsRow_open h with ⟨rfl, h0, -⟩ | ⟨g, cap, cur, rfl, -, hr, h3, h4, h5, h6⟩
  · obtain rfl := List.eq_nil_of_length_eq_zero h0
    exact SlE.nil w
  · refine ⟨_, cap, rfl, Or.inr ⟨g, 0, rfl, hr.lt, fun i hi j x hx => ?_⟩, h3, by unfold maxLen at h4; omega, fun e => by simp at e⟩
    have hj : j < 2 := (List.getElem?_eq_some_iff.1 hx).1
    have e := cellsE_get l i hi j x hx
    rw [hr.cell, Nat.zero_add, ← e, ← h6, List.getElem?_take, if_pos (by omega)]
theorem cell_two_new (w : World) (x y : Value) (t : TypeId) : ∀ j v, [x, y][j]? = some v → (w.alloc (.cells #[x, y] t)).cell? ((⟨w.heap.size, 0, none⟩ : Addr).add j) = some v := by
  intro j v hj
  match j, hj with
  | 0, hj => simp at hj; subst hj; simp [Addr.add]
  | 1, hj => simp at hj; subst hj; simp [Addr.add]

set_option maxRecDepth 100000 in
set_option maxHeartbeats 4000000 in
theorem refEOn_run (ao : Option Addr) (c : Nat) (l : List Ent) (kd : Nat) (key val : List UInt8) (dl : Nat) (w : World) (hs : SlAt Ent.cells 2 w ao l) (hl : l.length ≤ 1000) (hk : kd < 256) (hd : dl < 18446744073709551616) (hc : (Upd.mk kd key val dl).check = 0) (y : List UInt8) (is : Bool)
    (hnew : (match lookE l key with | some v => onL v true ⟨kd, key, val, dl⟩ | none => onL [] false ⟨kd, key, val, dl⟩) = (y, is)) :
    Calls Tryz.prog 24 #[.slice ao l.length c, .agg #[.int .u8 kd, .string (S key), .string (S val), .int .u64 dl]] w fun e w' => (∃ a c', e = .returned (.slice a (refOut l ⟨key, y⟩ is).length c') ∧ w'.ownsRow w.heap.size 72 2 (.slice a (refOut l ⟨key, y⟩ is).length c') (refOut l ⟨key, y⟩ is).length (cellsE (refOut l ⟨key, y⟩ is))) ∧ Below w.heap.size w w' := by
  obtain ⟨i0, hi, iz0, iz1, iz2⟩ := info_parts infoR
  have hchk := fun w => refCheck kd key val dl hk hd w
  rw [hc] at hchk
  have hget := fun w h => refEGet_any ao c l key w (by omega) h
  obtain ⟨old, there, hlv, hon⟩ : ∃ old there, valV (lookE l key) = .tuple #[.string (S old), .bool there] ∧ onL old there ⟨kd, key, val, dl⟩ = (y, is) := by
    cases hlk : lookE l key with
    | none => exact ⟨[], false, rfl, by simpa [hlk] using hnew⟩
    | some v => exact ⟨v, true, rfl, by simpa [hlk] using hnew⟩
  rw [hlv] at hget
  have honr := fun w => refOn_any old there kd key val dl hk hd w
  unfold onV at honr
  rw [hon] at honr
  have HG := Lib.hid hget
  have HN := Lib.hid honr
  have HS := Lib.hid hs
  clear hnew hlv hon hget honr hs hc hk hd
  go_enter Tryz.func24, Tryz.ntmps24
  go_wp2_with fail
  refine (thread (hchk _) w.heap.size w (by go_grown) (by go_grown)).mono ?_
  rintro e w1 ⟨rfl, hB1, hk1, -, -, hz1⟩
  have p0 := (hk1 w.heap.size 0 (by simp)).trans (by simp [go_sem]; rfl)
  have p1 := (hk1 w.heap.size 1 (by simp)).trans (by simp [go_sem]; rfl)
  have p2 := (hk1 w.heap.size 2 (by simp)).trans (by simp [go_sem]; rfl)
  have p3 := (hk1 w.heap.size 3 (by simp)).trans (by simp [go_sem]; rfl)
  clear hk1 hchk
  go_wp2_with fail
  refine (thread (HG.out _ (HS.out.kept hB1 (Nat.le_refl _))) w1.heap.size w1 (by go_grown) (by go_grown)).mono ?_
  rintro e w2 ⟨rfl, hX2, -, -, -, hz2⟩
  have q0 := kept_cell hX2 p0
  have q1 := kept_cell hX2 p1
  have q2 := kept_cell hX2 p2
  have q3 := kept_cell hX2 p3
  have hB2 := hB1.trans (hX2.mono hz1)
  clear p0 p1 p2 p3 hX2
  go_wp2_with fail
  refine (thread (HN.out _) w2.heap.size w2 (by go_grown) (by go_grown)).mono ?_
  rintro e w3 ⟨rfl, hX3, -, -, -, hz3⟩
  have r1 := kept_cell hX3 q1
  have hB3 := hB2.trans (hX3.mono (by omega))
  have hu3 : w.heap.size < w3.heap.size := World.block_lt_of_cell? w3 _ r1
  clear q0 q1 q2 q3 hX3
  go_wp2_with fail
  go_loopw [12, 10, 11] (fun i out dn wr => ∃ j : Nat, i = .int .i64 j ∧ j ≤ l.length ∧ ∃ st : List Ent × Bool, Hid (refFold ⟨key, y⟩ ([], !is) (l.take j) = st) ∧ dn = .bool st.2 ∧ wr.ownsRow w3.heap.size 72 2 out st.1.length (cellsE st.1) ∧ Below w3.heap.size w3 wr) (fun i _ _ _ => l.length - (intOf i).toNat)
  case atStart => exact ⟨0, rfl, Nat.zero_le _, ([], !is), Lib.hid rfl, rfl, World.ownsRow_nil _ _ _ _, Below.refl _ _⟩
  case round =>
    obtain ⟨j, rfl, hj, ⟨o, dn⟩, hfold, rfl, ho, hB⟩ := hrel
    have hj0 : (0 : Int) ≤ (j : Int) := Int.natCast_nonneg _
    dsimp only at ho
    obtain ⟨ov, oc, eo⟩ := own_form ho
    subst eo
    by_cases hjl : j < l.length
    · have hj1 : (j : Int) < (l.length : Int) := by omega
      obtain ⟨b, off, rfl, hb, t0, t1⟩ := SlAt.cells2 HS.out j hjl
      have hBw := hB3.trans (hB.mono hB3.size)
      have q0 := (cell_below hBw hb _).trans t0
      have q1 := (cell_below hBw hb _).trans t1
      have r1w := (cell_below hB hu3 1).trans r1
      have hst := Lib.hid (refFold_snoc ⟨key, y⟩ ([], !is) l j hjl)
      have hol : o.length ≤ 2000 := by
        have h1 := refFold_len ⟨key, y⟩ (l.take j) ([], !is)
        rw [hfold.out, List.length_take] at h1
        simp only [List.length_nil] at h1
        omega
      clear t1 hBw HG HN
      generalize l[j] = e at *
      cases dn with
      | true =>
        by_cases hk : e.key = key
        · have hkb : (e.key == key) = true := by simpa using hk
          go_wp2_with fail
          go_quiet (fail)
          obtain ⟨wqa, hwqa⟩ : ∃ wqa, wqa = wr.drewN nq := ⟨_, rfl⟩
          rw [← hwqa]
          have hBqa : Below wr.heap.size wr wqa := by rw [hwqa]; exact below_drewN (Below.refl _ _) nq
          clear hwqa
          have e0a := kept_cell hBqa q0
          have e1a := kept_cell hBqa q1
          have k1a := kept_cell hBqa r1w
          have owna := own_below ho hBqa
          have hBBa := hB.trans (hBqa.mono hB.size)
          clear hBqa
          go_wp2_with fail
          go_quiet (fail)
          obtain ⟨wqb, hwqb⟩ : ∃ wqb, wqb = wqa.drewN nq := ⟨_, rfl⟩
          rw [← hwqb]
          have hBqb : Below wqa.heap.size wqa wqb := by rw [hwqb]; exact below_drewN (Below.refl _ _) nq
          clear hwqb
          have e0b := kept_cell hBqb e0a
          have e1b := kept_cell hBqb e1a
          have k1b := kept_cell hBqb k1a
          have ownb := own_below owna hBqb
          have hBBb := hBBa.trans (hBqb.mono hBBa.size)
          clear hBqb
          go_wp2_with fail
          have hstep : refStep ⟨key, y⟩ (o, true) e = (o, true) := by
            unfold refStep
            simp [hk]
          exact ⟨⟨j + 1, by go_num, by omega, (o, true), Lib.hid (by rw [hst.out, hfold.out, hstep]), rfl, ownb, hBBb⟩, by simp [intOf]; omega⟩
        · have hkb : (e.key == key) = false := by simpa using hk
          go_wp2_with fail
          go_quiet (fail)
          obtain ⟨wqa, hwqa⟩ : ∃ wqa, wqa = wr.drewN nq := ⟨_, rfl⟩
          rw [← hwqa]
          have hBqa : Below wr.heap.size wr wqa := by rw [hwqa]; exact below_drewN (Below.refl _ _) nq
          clear hwqa
          have e0a := kept_cell hBqa q0
          have e1a := kept_cell hBqa q1
          have k1a := kept_cell hBqa r1w
          have owna := own_below ho hBqa
          have hBBa := hB.trans (hBqa.mono hB.size)
          clear hBqa
          go_wp2_with fail
          go_quiet (fail)
          obtain ⟨wqb, hwqb⟩ : ∃ wqb, wqb = wqa.drewN nq := ⟨_, rfl⟩
          rw [← hwqb]
          have hBqb : Below wqa.heap.size wqa wqb := by rw [hwqb]; exact below_drewN (Below.refl _ _) nq
          clear hwqb
          have e0b := kept_cell hBqb e0a
          have e1b := kept_cell hBqb e1a
          have k1b := kept_cell hBqb k1a
          have ownb := own_below owna hBqb
          have hBBb := hBBa.trans (hBqb.mono hBBa.size)
          clear hBqb
          go_wp2_with (at_builtin; go_must (refine wpList_append_own_at _ rfl (.tmp 67) (.tmp 72) 49 rfl w3.heap.size 72 i0 (.agg #[.string ByteArray.empty, .string ByteArray.empty]) 2 32 Tryz.underlying49 hi iz0 iz1 iz2 rfl (by decide) _ o.length _ rfl (ownb.alloc _) ⟨wqb.heap.size, 0, none⟩ 1 1 [.string (S e.key), .string (S e.val)] rfl rfl (cell_two_new _ _ _ _) (by simp [Value.oneCell']) (by unfold maxLen; omega) (by omega) (by have := hBBb.size; simp; omega) ?_; intro vz wz hownz hgrowz _ _))
          have hstep : refStep ⟨key, y⟩ (o, true) e = (o ++ [e], true) := by
            unfold refStep
            simp [hk]
          exact ⟨⟨j + 1, by go_num, by omega, (o ++ [e], true), Lib.hid (by rw [hst.out, hfold.out, hstep]), rfl, by rw [cellsE_append, cellsE_one, List.length_append, List.length_singleton]; exact hownz, below_grown (hBBb.alloc (by have := hBBb.size; omega) _) hgrowz (fun k e => (ownb.lt k e).1) (by have := hBBb.size; simp; omega)⟩, by simp [intOf]; omega⟩
      | false =>
        cases hbl : bl e.key key with
        | true =>
          have hk : ¬ e.key = key := bl_ne hbl
          have hkb : (e.key == key) = false := by simpa using hk
          go_wp2_with fail
          go_quiet (fail)
          obtain ⟨wqa, hwqa⟩ : ∃ wqa, wqa = wr.drewN nq := ⟨_, rfl⟩
          rw [← hwqa]
          have hBqa : Below wr.heap.size wr wqa := by rw [hwqa]; exact below_drewN (Below.refl _ _) nq
          clear hwqa
          have e0a := kept_cell hBqa q0
          have e1a := kept_cell hBqa q1
          have k1a := kept_cell hBqa r1w
          have owna := own_below ho hBqa
          have hBBa := hB.trans (hBqa.mono hB.size)
          clear hBqa
          go_wp2_with fail
          go_quiet (fail)
          obtain ⟨wqb, hwqb⟩ : ∃ wqb, wqb = wqa.drewN nq := ⟨_, rfl⟩
          rw [← hwqb]
          have hBqb : Below wqa.heap.size wqa wqb := by rw [hwqb]; exact below_drewN (Below.refl _ _) nq
          clear hwqb
          have e0b := kept_cell hBqb e0a
          have e1b := kept_cell hBqb e1a
          have k1b := kept_cell hBqb k1a
          have ownb := own_below owna hBqb
          have hBBb := hBBa.trans (hBqb.mono hBBa.size)
          clear hBqb
          go_wp2_with (at_builtin; go_must (refine wpList_append_own_at _ rfl (.tmp 67) (.tmp 72) 49 rfl w3.heap.size 72 i0 (.agg #[.string ByteArray.empty, .string ByteArray.empty]) 2 32 Tryz.underlying49 hi iz0 iz1 iz2 rfl (by decide) _ o.length _ rfl (ownb.alloc _) ⟨wqb.heap.size, 0, none⟩ 1 1 [.string (S e.key), .string (S e.val)] rfl rfl (cell_two_new _ _ _ _) (by simp [Value.oneCell']) (by unfold maxLen; omega) (by omega) (by have := hBBb.size; simp; omega) ?_; intro vz wz hownz hgrowz _ _))
          have hstep : refStep ⟨key, y⟩ (o, false) e = (o ++ [e], false) := by
            unfold refStep
            simp [hbl, hk]
          exact ⟨⟨j + 1, by go_num, by omega, (o ++ [e], false), Lib.hid (by rw [hst.out, hfold.out, hstep]), rfl, by rw [cellsE_append, cellsE_one, List.length_append, List.length_singleton]; exact hownz, below_grown (hBBb.alloc (by have := hBBb.size; omega) _) hgrowz (fun k e => (ownb.lt k e).1) (by have := hBBb.size; simp; omega)⟩, by simp [intOf]; omega⟩
        | false =>
          by_cases hk : e.key = key
          · have hkb : (e.key == key) = true := by simpa using hk
            have hbk : Op.bytesLess key key = false := bl_irrefl key
            go_wp2_with fail
            go_quiet (fail)
            obtain ⟨wqa, hwqa⟩ : ∃ wqa, wqa = wr.drewN nq := ⟨_, rfl⟩
            rw [← hwqa]
            have hBqa : Below wr.heap.size wr wqa := by rw [hwqa]; exact below_drewN (Below.refl _ _) nq
            clear hwqa
            have e0a := kept_cell hBqa q0
            have e1a := kept_cell hBqa q1
            have k1a := kept_cell hBqa r1w
            have owna := own_below ho hBqa
            have hBBa := hB.trans (hBqa.mono hB.size)
            clear hBqa
            go_wp2_with (at_builtin; go_must (refine wpList_append_own_at _ rfl (.tmp 52) (.tmp 57) 49 rfl w3.heap.size 72 i0 (.agg #[.string ByteArray.empty, .string ByteArray.empty]) 2 32 Tryz.underlying49 hi iz0 iz1 iz2 rfl (by decide) _ o.length _ rfl (owna.alloc _) ⟨wqa.heap.size, 0, none⟩ 1 1 [.string (S key), .string (S y)] rfl rfl (cell_two_new _ _ _ _) (by simp [Value.oneCell']) (by unfold maxLen; omega) (by omega) (by have := hBBa.size; simp; omega) ?_; intro vx wx hownx hgrowx _ _))
            have hownX : wx.ownsRow w3.heap.size 72 2 vx (o ++ [Ent.mk key y]).length (cellsE (o ++ [Ent.mk key y])) := by rw [cellsE_append, cellsE_one, List.length_append, List.length_singleton]; exact hownx
            have hBX := below_grown (hBBa.alloc (by have := hBBa.size; omega) _) hgrowx (fun k e => (owna.lt k e).1) (by have := hBBa.size; simp; omega)
            have hne : ∀ g, (Value.slice ov o.length oc).ownBlock = some g → w3.heap.size ≤ g := fun g e => (owna.lt g e).1
            obtain ⟨ax, cx, ex⟩ := own_form hownx
            subst ex
            have f0 := hgrowx.cell (cell_past _ e0a) (fun h => by have h1 : b < w.heap.size := hb; have h2 : w3.heap.size ≤ b := hne _ h.symm; have h3 := hB3.size; omega)
            have f1 := hgrowx.cell (cell_past _ e1a) (fun h => by have h1 : b < w.heap.size := hb; have h2 : w3.heap.size ≤ b := hne _ h.symm; have h3 := hB3.size; omega)
            have f2 := hgrowx.cell (cell_past _ k1a) (fun h => by have h2 : w3.heap.size ≤ w.heap.size := hne _ h.symm; omega)
            have hol2 : (o ++ [Ent.mk key y]).length ≤ 2001 := by rw [List.length_append, List.length_singleton]; omega
            clear hgrowx hownx
            go_wp2_with fail
            go_quiet (fail)
            obtain ⟨wqb, hwqb⟩ : ∃ wqb, wqb = wx.drewN nq := ⟨_, rfl⟩
            rw [← hwqb]
            have hBqb : Below wx.heap.size wx wqb := by rw [hwqb]; exact below_drewN (Below.refl _ _) nq
            clear hwqb
            have e0b := kept_cell hBqb f0
            have e1b := kept_cell hBqb f1
            have k1b := kept_cell hBqb f2
            have ownb := own_below hownX hBqb
            have hBBb := hBX.trans (hBqb.mono hBX.size)
            clear hBqb
            go_wp2_with fail
            have hstep : refStep ⟨key, y⟩ (o, false) e = (o ++ [Ent.mk key y], true) := by
              unfold refStep
              simp [hk, bl_irrefl]
            exact ⟨⟨j + 1, by go_num, by omega, (o ++ [Ent.mk key y], true), Lib.hid (by rw [hst.out, hfold.out, hstep]), rfl, ownb, hBBb⟩, by simp [intOf]; omega⟩
          · have hkb : (e.key == key) = false := by simpa using hk
            go_wp2_with fail
            go_quiet (fail)
            obtain ⟨wqa, hwqa⟩ : ∃ wqa, wqa = wr.drewN nq := ⟨_, rfl⟩
            rw [← hwqa]
            have hBqa : Below wr.heap.size wr wqa := by rw [hwqa]; exact below_drewN (Below.refl _ _) nq
            clear hwqa
            have e0a := kept_cell hBqa q0
            have e1a := kept_cell hBqa q1
            have k1a := kept_cell hBqa r1w
            have owna := own_below ho hBqa
            have hBBa := hB.trans (hBqa.mono hB.size)
            clear hBqa
            go_wp2_with (at_builtin; go_must (refine wpList_append_own_at _ rfl (.tmp 52) (.tmp 57) 49 rfl w3.heap.size 72 i0 (.agg #[.string ByteArray.empty, .string ByteArray.empty]) 2 32 Tryz.underlying49 hi iz0 iz1 iz2 rfl (by decide) _ o.length _ rfl (owna.alloc _) ⟨wqa.heap.size, 0, none⟩ 1 1 [.string (S key), .string (S y)] rfl rfl (cell_two_new _ _ _ _) (by simp [Value.oneCell']) (by unfold maxLen; omega) (by omega) (by have := hBBa.size; simp; omega) ?_; intro vx wx hownx hgrowx _ _))
            have hownX : wx.ownsRow w3.heap.size 72 2 vx (o ++ [Ent.mk key y]).length (cellsE (o ++ [Ent.mk key y])) := by rw [cellsE_append, cellsE_one, List.length_append, List.length_singleton]; exact hownx
            have hBX := below_grown (hBBa.alloc (by have := hBBa.size; omega) _) hgrowx (fun k e => (owna.lt k e).1) (by have := hBBa.size; simp; omega)
            have hne : ∀ g, (Value.slice ov o.length oc).ownBlock = some g → w3.heap.size ≤ g := fun g e => (owna.lt g e).1
            obtain ⟨ax, cx, ex⟩ := own_form hownx
            subst ex
            have f0 := hgrowx.cell (cell_past _ e0a) (fun h => by have h1 : b < w.heap.size := hb; have h2 : w3.heap.size ≤ b := hne _ h.symm; have h3 := hB3.size; omega)
            have f1 := hgrowx.cell (cell_past _ e1a) (fun h => by have h1 : b < w.heap.size := hb; have h2 : w3.heap.size ≤ b := hne _ h.symm; have h3 := hB3.size; omega)
            have f2 := hgrowx.cell (cell_past _ k1a) (fun h => by have h2 : w3.heap.size ≤ w.heap.size := hne _ h.symm; omega)
            have hol2 : (o ++ [Ent.mk key y]).length ≤ 2001 := by rw [List.length_append, List.length_singleton]; omega
            clear hgrowx hownx
            go_wp2_with fail
            go_quiet (fail)
            obtain ⟨wqb, hwqb⟩ : ∃ wqb, wqb = wx.drewN nq := ⟨_, rfl⟩
            rw [← hwqb]
            have hBqb : Below wx.heap.size wx wqb := by rw [hwqb]; exact below_drewN (Below.refl _ _) nq
            clear hwqb
            have e0b := kept_cell hBqb f0
            have e1b := kept_cell hBqb f1
            have k1b := kept_cell hBqb f2
            have ownb := own_below hownX hBqb
            have hBBb := hBX.trans (hBqb.mono hBX.size)
            clear hBqb
            go_wp2_with (at_builtin; go_must (refine wpList_append_own_at _ rfl (.tmp 67) (.tmp 72) 49 rfl w3.heap.size 72 i0 (.agg #[.string ByteArray.empty, .string ByteArray.empty]) 2 32 Tryz.underlying49 hi iz0 iz1 iz2 rfl (by decide) _ (o ++ [Ent.mk key y]).length _ rfl (ownb.alloc _) ⟨wqb.heap.size, 0, none⟩ 1 1 [.string (S e.key), .string (S e.val)] rfl rfl (cell_two_new _ _ _ _) (by simp [Value.oneCell']) (by unfold maxLen; omega) (by omega) (by have := hBBb.size; simp; omega) ?_; intro vz wz hownz hgrowz _ _))
            have hstep : refStep ⟨key, y⟩ (o, false) e = (o ++ [Ent.mk key y] ++ [e], true) := by
              unfold refStep
              simp [hbl, hk]
            exact ⟨⟨j + 1, by go_num, by omega, (o ++ [Ent.mk key y] ++ [e], true), Lib.hid (by rw [hst.out, hfold.out, hstep]), rfl, by rw [cellsE_append (o ++ [Ent.mk key y]) [e], cellsE_one, List.length_append, List.length_singleton]; exact hownz, below_grown (hBBb.alloc (by have := hBBb.size; omega) _) hgrowz (fun k e => (ownb.lt k e).1) (by have := hBBb.size; simp; omega)⟩, by simp [intOf]; omega⟩
    · obtain rfl : j = l.length := by omega
      have hro := hfold.out
      rw [List.take_length] at hro
      have hBw := hB3.trans (hB.mono hB3.size)
      have r1w := (cell_below hB hu3 1).trans r1
      have hol : o.length ≤ 2000 := by
        have h1 := refFold_len ⟨key, y⟩ l ([], !is)
        rw [hro] at h1
        simp only [List.length_nil] at h1
        omega
      cases dn with
      | true =>
        have hre := Lib.hid (show refOut l ⟨key, y⟩ is = o by unfold refOut; rw [hro]; rfl)
        clear hro
        go_wp2_with fail
        go_ret
        exact ⟨⟨ov, oc, by rw [hre.out]; rfl, by rw [hre.out]; exact own_base ho (by have := hB3.size; omega)⟩, hBw⟩
      | false =>
        have hre := Lib.hid (show refOut l ⟨key, y⟩ is = o ++ [Ent.mk key y] by unfold refOut; rw [hro]; rfl)
        clear hro
        go_wp2_with (at_builtin; go_must (refine wpList_append_own_at _ rfl (.tmp 76) (.tmp 81) 49 rfl w3.heap.size 72 i0 (.agg #[.string ByteArray.empty, .string ByteArray.empty]) 2 32 Tryz.underlying49 hi iz0 iz1 iz2 rfl (by decide) _ o.length _ rfl (ho.alloc _) ⟨wr.heap.size, 0, none⟩ 1 1 [.string (S key), .string (S y)] rfl rfl (cell_two_new _ _ _ _) (by simp [Value.oneCell']) (by unfold maxLen; omega) (by omega) (by have := hB.size; simp; omega) ?_; intro vz wz hownz hgrowz _ _; obtain ⟨az, cz, ez⟩ := own_form hownz; subst ez))
        have hownZ : wz.ownsRow w3.heap.size 72 2 (.slice az (o ++ [Ent.mk key y]).length cz) (o ++ [Ent.mk key y]).length (cellsE (o ++ [Ent.mk key y])) := by rw [cellsE_append, cellsE_one, List.length_append, List.length_singleton]; exact hownz
        go_ret
        refine ⟨⟨az, cz, by rw [hre.out, List.length_append, List.length_singleton]; rfl, by rw [hre.out]; exact own_base hownZ (by have := hB3.size; omega)⟩, ?_⟩
        exact hB3.trans ((below_grown (hB.alloc (by have := hB.size; omega) _) hgrowz (fun k e => (ho.lt k e).1) (by have := hB.size; simp; omega)).mono hB3.size)

end Go.Proofs.YtafciefjlkdecaaGreat

namespace Go.Proofs.YtafciefjlkdecaaGreat
open Go.RowKit

set_option maxHeartbeats 1000000 in
theorem refEOn_not (v : Value) (kd : Nat) (key val : List UInt8) (dl : Nat) (w : World) (hk : kd < 256) (hd : dl < 18446744073709551616) (hc : (Upd.mk kd key val dl).check ≠ 0) :
    Calls Tryz.prog 24 #[v, .agg #[.int .u8 kd, .string (S key), .string (S val), .int .u64 dl]] w fun e w' => e = .returned v ∧ Below w.heap.size w w' := by
  have hchk := fun w => refCheck kd key val dl hk hd w
  have hc0 : (((Upd.mk kd key val dl).check : Nat) : Int) ≠ 0 := by omega
  generalize (Upd.mk kd key val dl).check = cc at *
  go_enter Tryz.func24, Tryz.ntmps24
  go_wp2_with fail
  refine (thread (hchk _) w.heap.size w (by go_grown) (by go_grown)).mono ?_
  rintro e w1 ⟨rfl, hB1, -, -, -, -⟩
  go_wp2_with fail
  go_ret
  exact ⟨rfl, hB1⟩

theorem newE_is {l : List Ent} (hr : Rising Ent.key l) (u : Upd) : (match lookE l u.key with | some v => onL v true u | none => onL [] false u) = newE l u := by
  unfold newE
  cases hh : hasKey Ent.key l u.key with
  | false => rw [lookE_none hh]; rfl
  | true =>
    obtain ⟨hlt, hkey⟩ := (hr.found u.key).1 hh
    have ho : oldE l u.key = (l[below Ent.key l u.key]'hlt).val := by unfold oldE; rw [List.getElem?_eq_getElem hlt]; rfl
    have hl := lookE_at hr _ hlt
    rw [hkey] at hl
    rw [hl, ho]
    rfl
/-- It is a row of its own, or what came in. -/
theorem refEOn_own (ao : Option Addr) (n c : Nat) (l : List Ent) (kd : Nat) (key val : List UInt8) (dl : Nat) (w : World) (hn : n = l.length) (hs : SlE w (.slice ao n c) l) (hr : Rising Ent.key l) (hl : l.length ≤ 1000) (hk : kd < 256) (hd : dl < 18446744073709551616) :
    Calls Tryz.prog 24 #[.slice ao n c, .agg #[.int .u8 kd, .string (S key), .string (S val), .int .u64 dl]] w fun e w' => (∃ a c', e = .returned (.slice a (onE l ⟨kd, key, val, dl⟩).length c') ∧ (w'.ownsRow w.heap.size 72 2 (.slice a (onE l ⟨kd, key, val, dl⟩).length c') (onE l ⟨kd, key, val, dl⟩).length (cellsE (onE l ⟨kd, key, val, dl⟩)) ∨ (a = ao ∧ c' = c ∧ onE l ⟨kd, key, val, dl⟩ = l))) ∧ Below w.heap.size w w' := by
  subst hn
  by_cases hc : (Upd.mk kd key val dl).check = 0
  · have h1 := newE_is hr ⟨kd, key, val, dl⟩
    have h2 := refOut_is hr ⟨kd, key, val, dl⟩ hc
    obtain ⟨ao', c', e, hs', -⟩ := hs
    simp only [Value.slice.injEq] at e
    obtain ⟨rfl, -, rfl⟩ := e
    have := refEOn_run ao c l kd key val dl w hs' hl hk hd hc (newE l ⟨kd, key, val, dl⟩).1 (newE l ⟨kd, key, val, dl⟩).2 h1
    dsimp only at h2
    rw [h2] at this
    refine this.mono ?_
    rintro e w' ⟨⟨a, c', he, ho⟩, hb⟩
    exact ⟨⟨a, c', he, Or.inl ho⟩, hb⟩
  · have h3 : onE l ⟨kd, key, val, dl⟩ = l := by unfold onE; rw [if_pos hc]
    rw [h3]
    refine (refEOn_not _ kd key val dl w hk hd hc).mono ?_
    rintro e w' ⟨rfl, hb⟩
    exact ⟨⟨ao, c, rfl, Or.inr ⟨rfl, rfl, rfl⟩⟩, hb⟩
theorem refEOn_any (ao : Option Addr) (n c : Nat) (l : List Ent) (kd : Nat) (key val : List UInt8) (dl : Nat) (w : World) (hn : n = l.length) (hs : SlE w (.slice ao n c) l) (hr : Rising Ent.key l) (hl : l.length ≤ 1000) (hk : kd < 256) (hd : dl < 18446744073709551616) :
    Calls Tryz.prog 24 #[.slice ao n c, .agg #[.int .u8 kd, .string (S key), .string (S val), .int .u64 dl]] w fun e w' => (∃ a c', e = .returned (.slice a (onE l ⟨kd, key, val, dl⟩).length c') ∧ SlE w' (.slice a (onE l ⟨kd, key, val, dl⟩).length c') (onE l ⟨kd, key, val, dl⟩)) ∧ Below w.heap.size w w' := by
  refine (refEOn_own ao n c l kd key val dl w hn hs hr hl hk hd).mono ?_
  rintro e w' ⟨⟨a, c', he, h⟩, hb⟩
  refine ⟨⟨a, c', he, ?_⟩, hb⟩
  rcases h with h | ⟨rfl, rfl, h⟩
  · exact (SlE.of_row h).2
  · rw [h, ← hn]
    exact hs.kept hb (Nat.le_refl _)

end Go.Proofs.YtafciefjlkdecaaGreat
