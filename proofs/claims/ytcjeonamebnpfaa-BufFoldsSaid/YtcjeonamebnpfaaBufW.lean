/-
  The walk of (buf.Buffer).With.
-/
import Derived.Test.YtcjeonamebnpfaaBoxU
import Derived.Test.YtcjeonamebnpfaaInsU
import Derived.Test.YtcjeonamebnpfaaMsgO
import Derived.Test.YtcjeonamebnpfaaConc
import Derived.Deep.RegionHeld3
import Derived.Deep.DrawnRows
namespace Go.Proofs.Ytcjeonamebnpfaa
open Go.RowKit

/-- One more, behind that of its key. -/
def withL (l : List Upd) (u : Upd) : List Upd :=
  if h : below Upd.key l u.key < l.length ∧ hasKey Upd.key l u.key = true then l.set (below Upd.key l u.key) (joinL (l[below Upd.key l u.key]'h.1) u) else insU l (below Upd.key l u.key) u
/-- Updates that variables may hold, with values that aren't too long. -/
def Fine (l : List Upd) : Prop := ∀ u ∈ l, u.Wf ∧ u.val.length ≤ 1000000

theorem cellsU_set : ∀ (l : List Upd) (i : Nat) (x : Upd), i < l.length → ((((cellsU l).set (i * 4) (.int .u8 x.kind)).set (i * 4 + 1) (.string (S x.key))).set (i * 4 + 2) (.string (S x.val))).set (i * 4 + 3) (.int .u64 x.delta) = cellsU (l.set i x)
  | [], i, x, h => by simp at h
  | u :: l, 0, x, _ => by simp [cellsU, Upd.cells]
  | u :: l, i + 1, x, h => by
    have ih := cellsU_set l i x (by simpa using h)
    have e : ∀ (y : Upd) (m : List Upd), cellsU (y :: m) = .int .u8 y.kind :: .string (S y.key) :: .string (S y.val) :: .int .u64 y.delta :: cellsU m := fun y m => by simp [cellsU, Upd.cells]
    rw [List.set_cons_succ, e, e, ← ih, show (i + 1) * 4 = i * 4 + 1 + 1 + 1 + 1 by omega]
    simp only [List.set_cons_succ]
/-- A buffer of a call's own row. -/
def OwnB (B : Nat) (w : World) (v : Value) (l : List Upd) : Prop := ∃ a c, v = .agg #[.slice a l.length c] ∧ w.ownsRow B 31 4 (.slice a l.length c) l.length (cellsU l)
theorem OwnB.mk {B : Nat} {w : World} {a : Option Addr} {n c : Nat} {l : List Upd} (h : w.ownsRow B 31 4 (.slice a n c) n (cellsU l)) : OwnB B w (.agg #[.slice a n c]) l := by
  have hn := (SlU.of_own h).1
  subst hn
  exact ⟨a, c, rfl, h⟩
theorem OwnB.box {B : Nat} {w : World} {v : Value} {l : List Upd} (h : OwnB B w v l) : BoxU w v l := by
  obtain ⟨a, c, rfl, h⟩ := h
  exact BoxU.of_own h
set_option maxRecDepth 100000 in
set_option maxHeartbeats 4000000 in
theorem with_new (v : Value) (l : List Upd) (kd : Nat) (key val : List UInt8) (dl : Nat) (w : World) (hv : BoxU w v l) (hl : l.length ≤ 100000) (hr : Rising Upd.key l) (hno : hasKey Upd.key l key = false) :
    Calls Try.prog 12 #[v, .agg #[.int .u8 kd, .string (S key), .string (S val), .int .u64 dl]] w fun e w' => (∃ v', e = .returned v' ∧ OwnB w.heap.size w' v' (insU l (below Upd.key l key) ⟨kd, key, val, dl⟩)) ∧ Below w.heap.size w w' := by
  have hfind := fun w hv => findU v l key w hv (by omega) hr
  rw [hno] at hfind
  have hbl := below_le (key := Upd.key) l key
  obtain ⟨s, rfl, hs⟩ := hv
  have hcl := fun w hs => cloneU s l w hs (by omega)
  have HF := Lib.hid hfind
  have HC := Lib.hid hcl
  have HS := Lib.hid hs
  obtain ⟨ao, c, rfl, hs0, hc1, hc2, hn⟩ := hs
  clear hfind hcl hn hs0 hr
  go_enter Try.func12, Try.ntmps12
  go_wp2_with fail
  refine (thread (HF.out _ ⟨_, rfl, HS.out.kept (by go_grown) (Nat.le_refl _)⟩) w.heap.size w (by go_grown) (by go_grown)).mono ?_
  rintro e w1 ⟨rfl, hB1, hk1, hf1, hs1, hz1⟩
  have hs1' : w.heap.size + 1 + 1 < w1.heap.size := by simp at hs1; omega
  have p0 := (hk1 w.heap.size 0 (by first | (simp; done) | (simp; omega))).trans (by simp [go_sem]; rfl)
  have p1 := (hk1 (w.heap.size + 1) 0 (by first | (simp; done) | (simp; omega))).trans (by simp [go_sem]; rfl)
  have p2 := (hk1 (w.heap.size + 1) 1 (by first | (simp; done) | (simp; omega))).trans (by simp [go_sem]; rfl)
  have p3 := (hk1 (w.heap.size + 1) 2 (by first | (simp; done) | (simp; omega))).trans (by simp [go_sem]; rfl)
  have p4 := (hk1 (w.heap.size + 1) 3 (by first | (simp; done) | (simp; omega))).trans (by simp [go_sem]; rfl)
  have p5 := (hk1 (w.heap.size + 1 + 1) 0 (by first | (simp; done) | (simp; omega))).trans (by simp [go_sem]; rfl)
  have p6 : w1.frozen? ⟨w.heap.size + 1 + 1, 0, none⟩ = false := (hf1 (w.heap.size + 1 + 1) 0 (by first | (simp; done) | (simp; omega))).trans (by simp [go_sem])
  clear hk1 hf1 hs1
  go_wp2_with fail
  refine (thread (HC.out _ (HS.out.kept hB1 (Nat.le_refl _))) w.heap.size w hB1 hz1).mono ?_
  rintro e w2 ⟨⟨v', rfl, hown⟩, hB2, hk2, hf2, hs2, hz2⟩
  have q1 := (hk2 (w.heap.size + 1) 0 (by omega)).trans p1
  have q2 := (hk2 (w.heap.size + 1) 1 (by omega)).trans p2
  have q3 := (hk2 (w.heap.size + 1) 2 (by omega)).trans p3
  have q4 := (hk2 (w.heap.size + 1) 3 (by omega)).trans p4
  have q5 := (hk2 (w.heap.size + 1 + 1) 0 (by omega)).trans p5
  have q6 := (hf2 (w.heap.size + 1 + 1) 0 (by omega)).trans p6
  clear hk2 hf2 p0 p1 p2 p3 p4 p5 p6
  obtain ⟨ao', c', e'⟩ := own_form hown
  subst e'
  have hne : (Value.slice ao' l.length c').ownBlock ≠ some w2.heap.size := fun e => by have := (hown.lt _ e).2; omega
  have hnr : (Value.slice ao' l.length c').ownBlock ≠ some (w.heap.size + 1 + 1) := fun e => by have := (hown.lt _ e).1; omega
  have hins := insertU w1.heap.size (.slice ao' l.length c') l (below Upd.key l key) ⟨kd, key, val, dl⟩ w2.heap.size (w2.alloc (.cells #[.int .u8 kd, .string (S key), .string (S val), .int .u64 dl] 31)) (hown.alloc _) (by simp; omega) hbl (by omega) (RowIs.new w2 31 (Upd.cells ⟨kd, key, val, dl⟩)) hne
  have HI := Lib.hid hins
  clear hins hbl
  go_wp2_with fail
  refine (HI.out).mono ?_
  rintro e w3 ⟨v3, rfl, hown3, hg3, hat3⟩
  have s5 := hg3.cell (cell_past _ q5) (by simpa using fun e => hnr e.symm)
  have s6 : w3.frozen? ⟨w.heap.size + 1 + 1, 0, none⟩ = false := (World.frozen?_of_block (hg3.block (w.heap.size + 1 + 1) (by simp; omega) (fun e => hnr e.symm))).trans (by rw [World.frozen?_alloc_old _ _ _ (by show w.heap.size + 1 + 1 ≠ _; omega)]; exact q6)
  have hB3 := below_grown (hB2.alloc hz2 (.cells #[.int .u8 kd, .string (S key), .string (S val), .int .u64 dl] 31)) hg3 (fun k e => by have := (hown.lt k e).1; omega) (by simp; omega)
  obtain ⟨a3, c3, e3⟩ := own_form hown3
  subst e3
  have hne3 : (Value.slice a3 (l.length + 1) c3).ownBlock ≠ some (w.heap.size + 1 + 1) := fun e => by have := (hown3.lt _ e).1; omega
  have hbox := fun u => OwnB.mk (own_base (B' := w.heap.size) (ownsRow_setCell_other (a := ⟨w.heap.size + 1 + 1, 0, none⟩) hown3 hne3 u) (by omega))
  have hbox' := Lib.hid hbox
  clear q1 q2 q3 q4 q5 q6 hg3 hat3 hown3 hown hne hnr hne3 hbox
  go_wp2_with fail
  exact bodyPost_ret (v := .agg #[.slice a3 (l.length + 1) c3]) (by simp [results, Try.results12, go_sem, s5]) rfl ⟨⟨_, rfl, hbox'.out _⟩, hB3.setCell (p := ⟨w.heap.size + 1 + 1, 0, none⟩) (by show w.heap.size ≤ w.heap.size + 1 + 1; omega) _⟩

set_option maxRecDepth 100000 in
set_option maxHeartbeats 4000000 in
theorem with_old (v : Value) (l : List Upd) (kd : Nat) (key val : List UInt8) (dl : Nat) (w : World) (hv : BoxU w v l) (hl : l.length ≤ 100000) (hr : Rising Upd.key l) (i : Nat) (hi : below Upd.key l key = i) (hil : i < l.length) (hyes : hasKey Upd.key l key = true) (hf : Fine l) (J : Upd) (hJ : joinL l[i] ⟨kd, key, val, dl⟩ = J) (hk : kd < 256) (hd : dl < 18446744073709551616) :
    Calls Try.prog 12 #[v, .agg #[.int .u8 kd, .string (S key), .string (S val), .int .u64 dl]] w fun e w' => (∃ v', e = .returned v' ∧ OwnB w.heap.size w' v' (l.set i J)) ∧ Below w.heap.size w w' := by
  have hfind := fun w hv => findU v l key w hv (by omega) hr
  rw [hyes, hi] at hfind
  obtain ⟨hwf, hvl⟩ := hf _ (List.getElem_mem hil)
  have hjoin := fun w => join_any l[i] kd key val dl hwf hvl hk hd w
  simp only [hJ, updV] at hjoin
  have HJ := Lib.hid hjoin
  clear hjoin hf hJ
  obtain ⟨s, rfl, hs⟩ := hv
  have hcl := fun w hs => cloneU s l w hs (by omega)
  have HF := Lib.hid hfind
  have HC := Lib.hid hcl
  have HS := Lib.hid hs
  obtain ⟨ao, c, rfl, hs0, hc1, hc2, hn⟩ := hs
  clear hfind hcl hn hs0 hr
  go_enter Try.func12, Try.ntmps12
  go_wp2_with fail
  refine (thread (HF.out _ ⟨_, rfl, HS.out.kept (by go_grown) (Nat.le_refl _)⟩) w.heap.size w (by go_grown) (by go_grown)).mono ?_
  rintro e w1 ⟨rfl, hB1, hk1, hf1, hs1, hz1⟩
  have hs1' : w.heap.size + 1 + 1 < w1.heap.size := by simp at hs1; omega
  have p0 := (hk1 w.heap.size 0 (by first | (simp; done) | (simp; omega))).trans (by simp [go_sem]; rfl)
  have p1 := (hk1 (w.heap.size + 1) 0 (by first | (simp; done) | (simp; omega))).trans (by simp [go_sem]; rfl)
  have p2 := (hk1 (w.heap.size + 1) 1 (by first | (simp; done) | (simp; omega))).trans (by simp [go_sem]; rfl)
  have p3 := (hk1 (w.heap.size + 1) 2 (by first | (simp; done) | (simp; omega))).trans (by simp [go_sem]; rfl)
  have p4 := (hk1 (w.heap.size + 1) 3 (by first | (simp; done) | (simp; omega))).trans (by simp [go_sem]; rfl)
  have p5 := (hk1 (w.heap.size + 1 + 1) 0 (by first | (simp; done) | (simp; omega))).trans (by simp [go_sem]; rfl)
  have p6 : w1.frozen? ⟨w.heap.size + 1 + 1, 0, none⟩ = false := (hf1 (w.heap.size + 1 + 1) 0 (by first | (simp; done) | (simp; omega))).trans (by simp [go_sem])
  clear hk1 hf1 hs1
  go_wp2_with fail
  refine (thread (HC.out _ (HS.out.kept hB1 (Nat.le_refl _))) w.heap.size w hB1 hz1).mono ?_
  rintro e w2 ⟨⟨v', rfl, hown⟩, hB2, hk2, hf2, hs2, hz2⟩
  have q1 := (hk2 (w.heap.size + 1) 0 (by omega)).trans p1
  have q2 := (hk2 (w.heap.size + 1) 1 (by omega)).trans p2
  have q3 := (hk2 (w.heap.size + 1) 2 (by omega)).trans p3
  have q4 := (hk2 (w.heap.size + 1) 3 (by omega)).trans p4
  have q5 := (hk2 (w.heap.size + 1 + 1) 0 (by omega)).trans p5
  have q6 := (hf2 (w.heap.size + 1 + 1) 0 (by omega)).trans p6
  clear hk2 hf2 p0 p1 p2 p3 p4 p5 p6
  obtain ⟨ao', c', e'⟩ := own_form hown
  subst e'
  have hgl := own_at hown (by omega)
  obtain ⟨g, rfl, hgB, hgl, hrow⟩ := hgl
  have hcell := fun j x hx => hrow (i * 4 + j) x (cellsU_get l i hil j x hx)
  have t0 := hcell 0 _ rfl
  have t1 := hcell 1 _ rfl
  have t2 := hcell 2 _ rfl
  have t3 := hcell 3 _ rfl
  rw [Nat.add_zero] at t0
  have hfz := hown.frozenAt
  have hi0 : (0 : Int) ≤ (i : Int) := by omega
  have hi1 : (i : Int) < (l.length : Int) := by omega
  clear hcell hrow
  generalize l[i] = u at *
  go_wp2_with fail
  have hnr : (Value.slice (some ⟨g, 0, none⟩) l.length c').ownBlock ≠ some (w.heap.size + 1 + 1) := fun e => by have := (hown.lt _ e).1; omega
  have hown' := Lib.hid hown
  go_region_law (first | (go_simp; go_at_call 47; refine (HJ.out _).mono ?_; rintro e w4 ⟨rfl, hb4⟩; have hown4 := own_below (World.ownsRow.drew hown'.out) hb4; have hB4 := (below_drew' hB2).trans (below_same hb4 hz2); have hk4 := (bcell hb4).1; have hf4 := (bcell hb4).2; have y0 := (hk4 g (i * 4) (by first | exact hgl | (simp; omega))).trans t0; have y1 := (hk4 g (i * 4 + 1) (by first | exact hgl | (simp; omega))).trans t1; have y2 := (hk4 g (i * 4 + 2) (by first | exact hgl | (simp; omega))).trans t2; have y3 := (hk4 g (i * 4 + 3) (by first | exact hgl | (simp; omega))).trans t3; have z5 := (hk4 (w.heap.size + 1 + 1) 0 (by first | (simp; omega) | omega)).trans q5; have z6 := (hf4 (w.heap.size + 1 + 1) 0 (by first | (simp; omega) | omega)).trans q6; have zf := fun o => (hf4 g o (by first | exact hgl | (simp; omega))).trans (hfz o); clear hk4 hf4 hb4))
  all_goals
    have hset := (((((hown4.stored (i * 4) (.int .u8 J.kind)).1.stored (i * 4 + 1) (.string (S J.key))).1.stored (i * 4 + 2) (.string (S J.val))).1.stored (i * 4 + 3) (.int .u64 J.delta)).1)
    rw [cellsU_set l i J hil] at hset
    have hlen' : (l.set i J).length = l.length := List.length_set ..
    have hbox := fun u => OwnB.mk (own_base (B' := w.heap.size) (ownsRow_setCell_other (a := ⟨w.heap.size + 1 + 1, 0, none⟩) hset hnr u) (by omega))
    have hbox' := Lib.hid hbox
    have hB5 := (((hB4.setCell (p := ⟨g, i * 4, none⟩) (by show w.heap.size ≤ g; omega) (.int .u8 J.kind)).setCell (p := ⟨g, i * 4 + 1, none⟩) (by show w.heap.size ≤ g; omega) (.string (S J.key))).setCell (p := ⟨g, i * 4 + 2, none⟩) (by show w.heap.size ≤ g; omega) (.string (S J.val))).setCell (p := ⟨g, i * 4 + 3, none⟩) (by show w.heap.size ≤ g; omega) (.int .u64 J.delta)
    clear hset hown4 hbox y0 y1 y2 y3 t0 t1 t2 t3 zf hfz
    go_wp2_with fail
    exact bodyPost_ret (v := .agg #[.slice (some ⟨g, 0, none⟩) l.length c']) (by simp [results, Try.results12, go_sem, z5]) rfl ⟨⟨_, rfl, hbox'.out _⟩, hB5.setCell (p := ⟨w.heap.size + 1 + 1, 0, none⟩) (by show w.heap.size ≤ w.heap.size + 1 + 1; omega) _⟩

/-- With, whether its key waits or not. -/
theorem with_own (v : Value) (l : List Upd) (kd : Nat) (key val : List UInt8) (dl : Nat) (w : World) (hv : BoxU w v l) (hl : l.length ≤ 100000) (hr : Rising Upd.key l) (hf : Fine l) (hk : kd < 256) (hd : dl < 18446744073709551616) :
    Calls Try.prog 12 #[v, .agg #[.int .u8 kd, .string (S key), .string (S val), .int .u64 dl]] w fun e w' => (∃ v', e = .returned v' ∧ OwnB w.heap.size w' v' (withL l ⟨kd, key, val, dl⟩)) ∧ Below w.heap.size w w' := by
  cases hh : hasKey Upd.key l key with
  | false =>
    have := with_new v l kd key val dl w hv hl hr hh
    rwa [show withL l ⟨kd, key, val, dl⟩ = insU l (below Upd.key l key) ⟨kd, key, val, dl⟩ by unfold withL; rw [dif_neg (by simp [hh])]]
  | true =>
    obtain ⟨hlt, hkey⟩ := (hr.found key).1 hh
    have := with_old v l kd key val dl w hv hl hr _ rfl hlt hh hf _ rfl hk hd
    rwa [show withL l ⟨kd, key, val, dl⟩ = l.set (below Upd.key l key) (joinL (l[below Upd.key l key]'hlt) ⟨kd, key, val, dl⟩) by unfold withL; rw [dif_pos ⟨hlt, hh⟩]]
theorem with_any (v : Value) (l : List Upd) (kd : Nat) (key val : List UInt8) (dl : Nat) (w : World) (hv : BoxU w v l) (hl : l.length ≤ 100000) (hr : Rising Upd.key l) (hf : Fine l) (hk : kd < 256) (hd : dl < 18446744073709551616) :
    Calls Try.prog 12 #[v, .agg #[.int .u8 kd, .string (S key), .string (S val), .int .u64 dl]] w fun e w' => (∃ v', e = .returned v' ∧ BoxU w' v' (withL l ⟨kd, key, val, dl⟩)) ∧ Below w.heap.size w w' :=
  (with_own v l kd key val dl w hv hl hr hf hk hd).mono fun _ _ ⟨⟨v', he, h⟩, hb⟩ => ⟨⟨v', he, h.box⟩, hb⟩

end Go.Proofs.Ytcjeonamebnpfaa
