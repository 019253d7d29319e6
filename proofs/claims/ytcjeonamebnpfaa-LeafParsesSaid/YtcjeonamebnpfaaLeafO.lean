/-
  The walk of (*leaf.Leaf).on: what an update makes of a leaf in its box.
-/
import Derived.Test.YtcjeonamebnpfaaBoxE
import Derived.Test.YtcjeonamebnpfaaInsE
import Derived.Test.YtcjeonamebnpfaaDelE
import Derived.Test.YtcjeonamebnpfaaChk
import Derived.Test.YtcjeonamebnpfaaMsgO
import Derived.Test.YtcjeonamebnpfaaUse
import Derived.Deep.RegionHeld3
import Derived.Deep.DrawnRows
namespace Go.Proofs.Ytcjeonamebnpfaa
open Go.RowKit

/-- The value of a key, or none. -/
def oldE (l : List Ent) (k : List UInt8) : List UInt8 := ((l[below Ent.key l k]?).map Ent.val).getD []
/-- What an update that may be makes of the value of its key. -/
def newE (l : List Ent) (u : Upd) : List UInt8 × Bool := if hasKey Ent.key l u.key then onL (oldE l u.key) true u else onL [] false u
/-- What an update makes of entries. -/
def onE (l : List Ent) (u : Upd) : List Ent :=
  if u.check ≠ 0 then l
  else if (newE l u).2 then (if hasKey Ent.key l u.key then l.set (below Ent.key l u.key) ⟨u.key, (newE l u).1⟩ else insE l (below Ent.key l u.key) ⟨u.key, (newE l u).1⟩)
  else if hasKey Ent.key l u.key then delE l (below Ent.key l u.key) else l

/-- A leaf in its box p: the row is the call's own, and another block. -/
structure LeafAt (B p : Nat) (l : List Ent) (w : World) : Prop where
  own : ∃ a c, w.cell? ⟨p, 0, none⟩ = some (.slice a l.length c) ∧ w.ownsRow B 54 2 (.slice a l.length c) l.length (cellsE l) ∧ (Value.slice a l.length c).ownBlock ≠ some p
  free : w.frozen? ⟨p, 0, none⟩ = false
  lt : p < w.heap.size
  base : B ≤ p
theorem LeafAt.on {B p : Nat} {l : List Ent} {w w' : World} (h : LeafAt B p l w) (hb : Below w.heap.size w w') : LeafAt B p l w' := by
  obtain ⟨⟨a, c, h1, h2, h3⟩, h4, h5, h6⟩ := h
  exact ⟨⟨a, c, kept_cell hb h1, own_below h2 hb, h3⟩, ((bcell hb).2 p 0 h5).trans h4, Nat.lt_of_lt_of_le h5 hb.size, h6⟩

theorem cellsE_set : ∀ (l : List Ent) (i : Nat) (y : List UInt8) (hi : i < l.length), (cellsE l).set (i * 2 + 1) (.string (S y)) = cellsE (l.set i ⟨l[i].key, y⟩)
  | [], i, _, h => by simp at h
  | u :: l, 0, y, _ => by simp [cellsE, Ent.cells]
  | u :: l, i + 1, y, h => by
    have ih := cellsE_set l i y (by simpa using h)
    have e : ∀ (y : Ent) (m : List Ent), cellsE (y :: m) = .string (S y.key) :: .string (S y.val) :: cellsE m := fun y m => by simp [cellsE, Ent.cells]
    rw [List.getElem_cons_succ, List.set_cons_succ, e, e, ← ih, show (i + 1) * 2 + 1 = i * 2 + 1 + 1 + 1 by omega]
    simp only [List.set_cons_succ]

/-- What the walk keeps: the leaf's box p, and the update's box q. -/
structure OnAt (B p q : Nat) (a : Option Addr) (c : Nat) (l : List Ent) (kd : Nat) (key val : List UInt8) (dl : Nat) (w0 w : World) : Prop where
  cell : w.cell? ⟨p, 0, none⟩ = some (.slice a l.length c)
  own : w.ownsRow B 54 2 (.slice a l.length c) l.length (cellsE l)
  free : w.frozen? ⟨p, 0, none⟩ = false
  q0 : w.cell? ⟨q, 0, none⟩ = some (.int .u8 kd)
  q1 : w.cell? ⟨q, 1, none⟩ = some (.string (S key))
  q2 : w.cell? ⟨q, 2, none⟩ = some (.string (S val))
  q3 : w.cell? ⟨q, 3, none⟩ = some (.int .u64 dl)
  lt : p < w.heap.size
  low : Below B w0 w
  base : B ≤ w0.heap.size
theorem OnAt.on {B p q : Nat} {a : Option Addr} {c : Nat} {l : List Ent} {kd : Nat} {key val : List UInt8} {dl : Nat} {w0 w w' : World} (h : OnAt B p q a c l kd key val dl w0 w) (hb : Below w.heap.size w w') : OnAt B p q a c l kd key val dl w0 w' :=
  ⟨kept_cell hb h.cell, own_below h.own hb, ((bcell hb).2 p 0 h.lt).trans h.free, kept_cell hb h.q0, kept_cell hb h.q1, kept_cell hb h.q2, kept_cell hb h.q3, Nat.lt_of_lt_of_le h.lt hb.size, h.low.trans (hb.mono (Nat.le_trans h.base h.low.size)), h.base⟩
theorem OnAt.drew {B p q : Nat} {a : Option Addr} {c : Nat} {l : List Ent} {kd : Nat} {key val : List UInt8} {dl : Nat} {w0 w : World} (h : OnAt B p q a c l kd key val dl w0 w) : OnAt B p q a c l kd key val dl w0 w.drew := h.on (below_drew' (Below.refl _ _))
theorem OnAt.start {B p : Nat} {a : Option Addr} {c : Nat} {l : List Ent} {kd : Nat} {key val : List UInt8} {dl : Nat} {w : World} (t : TypeId) (h1 : w.cell? ⟨p, 0, none⟩ = some (.slice a l.length c)) (h2 : w.ownsRow B 54 2 (.slice a l.length c) l.length (cellsE l)) (h3 : w.frozen? ⟨p, 0, none⟩ = false) (h4 : p < w.heap.size) (h5 : B ≤ p) :
    OnAt B p w.heap.size a c l kd key val dl w (w.alloc (.cells #[.int .u8 kd, .string (S key), .string (S val), .int .u64 dl] t)) := by
  have hb : Below w.heap.size w (w.alloc (.cells #[.int .u8 kd, .string (S key), .string (S val), .int .u64 dl] t)) := by go_grown
  exact ⟨kept_cell hb h1, own_below h2 hb, ((bcell hb).2 p 0 h4).trans h3, by simp, by simp, by simp, by simp, Nat.lt_of_lt_of_le h4 hb.size, hb.mono (by omega), by omega⟩

set_option maxRecDepth 100000 in
set_option maxHeartbeats 4000000 in
theorem on_refused (p : Nat) (kd : Nat) (key val : List UInt8) (dl : Nat) (w : World) (hk : kd < 256) (hd : dl < 18446744073709551616) (hc : (Upd.mk kd key val dl).check ≠ 0) :
    Calls Try.prog 51 #[.pointer (some ⟨p, 0, none⟩), .agg #[.int .u8 kd, .string (S key), .string (S val), .int .u64 dl]] w fun e w' => e = .returned (.tuple #[]) ∧ Below w.heap.size w w' := by
  have hchk := fun w => chk kd key val dl hk hd w
  have hc0 : (((Upd.mk kd key val dl).check : Nat) : Int) ≠ 0 := by omega
  generalize (Upd.mk kd key val dl).check = cc at *
  go_enter Try.func51, Try.ntmps51
  go_wp2_with fail
  refine (thread (hchk _) w.heap.size w (by go_grown) (by go_grown)).mono ?_
  rintro e w1 ⟨rfl, hB1, -, -, -, -⟩
  go_wp2_with fail
  exact bodyPost_ret (v := .tuple #[]) (by simp [results, Try.results51, go_sem]) rfl ⟨rfl, hB1⟩

theorem LeafAt.put {B p n : Nat} {l : List Ent} {w : World} {x : Value} {a : Option Addr} {c : Nat} (hn : l.length = n) (z1 : w.cell? ⟨p, 0, none⟩ = some x) (z2 : w.frozen? ⟨p, 0, none⟩ = false) (hown : w.ownsRow B 54 2 (.slice a n c) n (cellsE l)) (hne : (Value.slice a n c).ownBlock ≠ some p) (hlt : p < w.heap.size) (hB : B ≤ p) :
    LeafAt B p l (w.setCell ⟨p, 0, none⟩ (.slice a n c)) := by
  subst hn
  exact ⟨⟨a, c, World.cell?_setCell_same _ _ _ z1, ownsRow_setCell_other (a := ⟨p, 0, none⟩) hown hne _, hne⟩, by rw [World.frozen?_setCell]; exact z2, by rw [World.size_setCell]; exact hlt, hB⟩
theorem insE_len (l : List Ent) (i : Nat) (x : Ent) (h : i ≤ l.length) : (insE l i x).length = l.length + 1 := by simp [insE]; omega
theorem delE_len (l : List Ent) (i : Nat) (h : i < l.length) : (delE l i).length = l.length - 1 := by simp [delE]; omega

set_option maxRecDepth 100000 in
set_option maxHeartbeats 4000000 in
theorem on_nothing (B p : Nat) (l : List Ent) (kd : Nat) (key val : List UInt8) (dl : Nat) (w : World) (h : LeafAt B p l w) (hl : l.length ≤ 100000) (hr : Rising Ent.key l) (hk : kd < 256) (hd : dl < 18446744073709551616) (hc : (Upd.mk kd key val dl).check = 0) (i : Nat) (hi : below Ent.key l key = i) (hh : hasKey Ent.key l key = false) (y : List UInt8) (hy : onL [] false ⟨kd, key, val, dl⟩ = (y, false)) :
    Calls Try.prog 51 #[.pointer (some ⟨p, 0, none⟩), .agg #[.int .u8 kd, .string (S key), .string (S val), .int .u64 dl]] w fun e w' => e = .returned (.tuple #[]) ∧ LeafAt B p l w' ∧ Below B w w' := by
  have hchk := fun w => chk kd key val dl hk hd w
  rw [hc] at hchk
  have hfind := fun v w hv => findE v l key w hv (by omega) hr
  rw [hh, hi] at hfind
  have hon := fun w => on_any [] false kd key val dl (by simp) hk hd w
  simp only [onV, hy] at hon
  obtain ⟨⟨a, c, h1, h2, hne⟩, h3, h4, h5⟩ := h
  have HO := Lib.hid (OnAt.start (kd := kd) (key := key) (val := val) (dl := dl) 31 h1 h2 h3 h4 h5)
  have HF := Lib.hid hfind
  have HN := Lib.hid hon
  clear hfind hon hy hc h1 h2 h3 hr hi hh hk hd
  go_enter Try.func51, Try.ntmps51
  go_wp2_with fail
  refine (hchk _).mono ?_
  rintro e w1 ⟨rfl, hB1⟩
  have HO1 := Lib.hid (HO.out.on hB1)
  clear HO hchk hB1
  obtain ⟨c1, o1, f1, q0, q1, q2, q3, lt1, low1, -⟩ := HO1.out
  go_wp2_with fail
  go_region_held3 (fun w' => w'.cell? ⟨p, 0, none⟩ = some (.slice a l.length c) ∧ w'.cell? ⟨w.heap.size, 1, none⟩ = some (.string (S key)) ∧ OnAt B p w.heap.size a c l kd key val dl w w')
    (first | assumption | exact ⟨c1, q1, HO1.out.drew⟩ | exact ⟨HO2.out.cell, HO2.out.q1, HO2.out⟩)
    ((go_at_call 62; go_must (obtain ⟨x0, x1, x2⟩ := ‹_ ∧ _ ∧ OnAt _ _ _ _ _ _ _ _ _ _ _ _›; refine (HF.out _ _ ⟨_, rfl, (SlE.of_own x2.own).2⟩).mono ?_; rintro e w2 ⟨rfl, hB2⟩; have HO2 := Lib.hid (x2.on hB2))))
  clear c1 o1 f1 q0 q1 q2 q3 lt1 low1 HO1 HF
  obtain ⟨c2, o2, f2, q0, q1, q2, q3, lt2, low2, -⟩ := HO2.out
  go_wp2_with fail
  refine (HN.out _).mono ?_
  rintro e w3 ⟨rfl, hB3⟩
  have HO3 := Lib.hid (HO2.out.on hB3)
  have hB3' := hB3
  clear c2 o2 f2 q0 q1 q2 q3 lt2 low2 HO2 hB3 HN
  obtain ⟨c3, o3, f3, q0, q1, q2, q3, lt3, low3, base3⟩ := HO3.out
  go_wp2_with fail
  exact bodyPost_end (v := .tuple #[]) (by simp [results, Try.results51, go_sem]) rfl ⟨rfl, ⟨⟨a, c, c3, o3, hne⟩, f3, lt3, h5⟩, low3⟩

set_option maxRecDepth 100000 in
set_option maxHeartbeats 4000000 in
theorem on_new (B p : Nat) (l : List Ent) (kd : Nat) (key val : List UInt8) (dl : Nat) (w : World) (h : LeafAt B p l w) (hl : l.length ≤ 100000) (hr : Rising Ent.key l) (hk : kd < 256) (hd : dl < 18446744073709551616) (hc : (Upd.mk kd key val dl).check = 0) (i : Nat) (hi : below Ent.key l key = i) (hh : hasKey Ent.key l key = false) (hil : i ≤ l.length) (y : List UInt8) (hy : onL [] false ⟨kd, key, val, dl⟩ = (y, true)) :
    Calls Try.prog 51 #[.pointer (some ⟨p, 0, none⟩), .agg #[.int .u8 kd, .string (S key), .string (S val), .int .u64 dl]] w fun e w' => e = .returned (.tuple #[]) ∧ LeafAt B p (insE l i ⟨key, y⟩) w' ∧ Below B w w' := by
  have hchk := fun w => chk kd key val dl hk hd w
  rw [hc] at hchk
  have hfind := fun v w hv => findE v l key w hv (by omega) hr
  rw [hh, hi] at hfind
  have hon := fun w => on_any [] false kd key val dl (by simp) hk hd w
  simp only [onV, hy] at hon
  obtain ⟨⟨a, c, h1, h2, hne⟩, h3, h4, h5⟩ := h
  have HO := Lib.hid (OnAt.start (kd := kd) (key := key) (val := val) (dl := dl) 31 h1 h2 h3 h4 h5)
  have HF := Lib.hid hfind
  have HN := Lib.hid hon
  clear hfind hon hy hc h1 h2 h3 hr hi hh hk hd
  go_enter Try.func51, Try.ntmps51
  go_wp2_with fail
  refine (hchk _).mono ?_
  rintro e w1 ⟨rfl, hB1⟩
  have HO1 := Lib.hid (HO.out.on hB1)
  clear HO hchk hB1
  obtain ⟨c1, o1, f1, q0, q1, q2, q3, lt1, low1, -⟩ := HO1.out
  go_wp2_with fail
  go_region_held3 (fun w' => w'.cell? ⟨p, 0, none⟩ = some (.slice a l.length c) ∧ w'.cell? ⟨w.heap.size, 1, none⟩ = some (.string (S key)) ∧ OnAt B p w.heap.size a c l kd key val dl w w')
    (first | assumption | exact ⟨c1, q1, HO1.out.drew⟩ | exact ⟨HO2.out.cell, HO2.out.q1, HO2.out⟩)
    ((go_at_call 62; go_must (obtain ⟨x0, x1, x2⟩ := ‹_ ∧ _ ∧ OnAt _ _ _ _ _ _ _ _ _ _ _ _›; refine (HF.out _ _ ⟨_, rfl, (SlE.of_own x2.own).2⟩).mono ?_; rintro e w2 ⟨rfl, hB2⟩; have HO2 := Lib.hid (x2.on hB2))))
  clear c1 o1 f1 q0 q1 q2 q3 lt1 low1 HO1 HF
  obtain ⟨c2, o2, f2, q0, q1, q2, q3, lt2, low2, -⟩ := HO2.out
  go_wp2_with fail
  refine (HN.out _).mono ?_
  rintro e w3 ⟨rfl, hB3⟩
  have HO3 := Lib.hid (HO2.out.on hB3)
  have hB3' := hB3
  clear c2 o2 f2 q0 q1 q2 q3 lt2 low2 HO2 hB3 HN
  obtain ⟨c3, o3, f3, q0, q1, q2, q3, lt3, low3, base3⟩ := HO3.out
  have hI := Lib.hid (insertE B (.slice a l.length c) l i ⟨key, y⟩ w3.heap.size (w3.drew.alloc (.cells #[.string (S key), .string (S y)] 54)) (o3.drew.alloc _) (by simp; have := low3.size; omega) hil (by omega) (RowIs.new w3.drew 54 (Ent.cells ⟨key, y⟩)) (fun e => by have := (o3.lt _ e).2; omega))
  have hlow := Lib.hid ((below_drew' low3).alloc (Nat.le_trans base3 low3.size) (.cells #[.string (S key), .string (S y)] 54))
  have hob := fun k (e : (Value.slice a l.length c).ownBlock = some k) => (o3.lt k e).1
  have hbz := Nat.le_trans base3 low3.size
  clear o3
  go_wp2_with fail
  go_region_law (first | (go_simp; go_at_call 77; refine (hI.out).mono ?_; rintro e w5 ⟨v3, rfl, hown3, hg3, hat3⟩; have z1 := hg3.cell (cell_past _ (cell_drew c3)) (by simpa using fun e => hne e.symm); have z2 : w5.frozen? ⟨p, 0, none⟩ = false := (World.frozen?_of_block (hg3.block p (by simp; omega) (fun e => hne e.symm))).trans (by rw [World.frozen?_alloc_old _ _ _ (by show p ≠ _; simp; omega)]; exact frozen_drew f3); obtain ⟨a3, c3', e3⟩ := own_form hown3; subst e3))
  all_goals (
    go_wp2_with fail
    refine bodyPost_end (v := .tuple #[]) (by simp [results, Try.results51, go_sem]) rfl ⟨rfl, LeafAt.put (insE_len l i _ hil) z1 z2 hown3 ?_ (Nat.lt_of_lt_of_le lt3 (Nat.le_trans (by simp) hg3.size)) h5, (below_grown hlow.out hg3 hob (by simp; omega)).setCell (p := ⟨p, 0, none⟩) h5 _⟩
    rcases hat3 with hat | hat
    · rw [hat]; exact hne
    · rw [hat]; intro e; simp at e; omega)

set_option maxRecDepth 100000 in
set_option maxHeartbeats 4000000 in
theorem on_set (B p : Nat) (l : List Ent) (kd : Nat) (key val : List UInt8) (dl : Nat) (w : World) (h : LeafAt B p l w) (hl : l.length ≤ 100000) (hr : Rising Ent.key l) (hk : kd < 256) (hd : dl < 18446744073709551616) (hc : (Upd.mk kd key val dl).check = 0) (i : Nat) (hi : below Ent.key l key = i) (hh : hasKey Ent.key l key = true) (hil : i < l.length) (hky : l[i].key = key) (old : List UInt8) (ho : l[i].val = old) (hvl : old.length ≤ 1000000) (y : List UInt8) (hy : onL old true ⟨kd, key, val, dl⟩ = (y, true)) :
    Calls Try.prog 51 #[.pointer (some ⟨p, 0, none⟩), .agg #[.int .u8 kd, .string (S key), .string (S val), .int .u64 dl]] w fun e w' => e = .returned (.tuple #[]) ∧ LeafAt B p (l.set i ⟨key, y⟩) w' ∧ Below B w w' := by
  have hchk := fun w => chk kd key val dl hk hd w
  rw [hc] at hchk
  have hfind := fun v w hv => findE v l key w hv (by omega) hr
  rw [hh, hi] at hfind
  have hon := fun w => on_any old true kd key val dl hvl hk hd w
  simp only [onV, hy] at hon
  obtain ⟨⟨a, c, h1, h2, hne⟩, h3, h4, h5⟩ := h
  have HO := Lib.hid (OnAt.start (kd := kd) (key := key) (val := val) (dl := dl) 31 h1 h2 h3 h4 h5)
  have HF := Lib.hid hfind
  have HN := Lib.hid hon
  clear hfind hon hy hc h1 h2 h3 hr hi hh hk hd
  go_enter Try.func51, Try.ntmps51
  go_wp2_with fail
  refine (hchk _).mono ?_
  rintro e w1 ⟨rfl, hB1⟩
  have HO1 := Lib.hid (HO.out.on hB1)
  clear HO hchk hB1
  obtain ⟨c1, o1, f1, q0, q1, q2, q3, lt1, low1, -⟩ := HO1.out
  go_wp2_with fail
  go_region_held3 (fun w' => w'.cell? ⟨p, 0, none⟩ = some (.slice a l.length c) ∧ w'.cell? ⟨w.heap.size, 1, none⟩ = some (.string (S key)) ∧ OnAt B p w.heap.size a c l kd key val dl w w')
    (first | assumption | exact ⟨c1, q1, HO1.out.drew⟩ | exact ⟨HO2.out.cell, HO2.out.q1, HO2.out⟩)
    ((go_at_call 62; go_must (obtain ⟨x0, x1, x2⟩ := ‹_ ∧ _ ∧ OnAt _ _ _ _ _ _ _ _ _ _ _ _›; refine (HF.out _ _ ⟨_, rfl, (SlE.of_own x2.own).2⟩).mono ?_; rintro e w2 ⟨rfl, hB2⟩; have HO2 := Lib.hid (x2.on hB2))))
  clear c1 o1 f1 q0 q1 q2 q3 lt1 low1 HO1 HF
  obtain ⟨c2, o2, f2, q0, q1, q2, q3, lt2, low2, -⟩ := HO2.out
  obtain ⟨g, rfl, hgB, hgl, hrow⟩ := own_at o2 (by omega)
  have t1 := hrow (i * 2 + 1) (.string (S l[i].val)) (cellsE_get l i hil 1 _ rfl)
  rw [ho] at t1
  have hi0 : (0 : Int) ≤ (i : Int) := by omega
  have hi1 : (i : Int) < (l.length : Int) := by omega
  clear hrow
  go_wp2_with fail
  refine (HN.out _).mono ?_
  rintro e w3 ⟨rfl, hB3⟩
  have HO3 := Lib.hid (HO2.out.on hB3)
  have hB3' := hB3
  clear c2 o2 f2 q0 q1 q2 q3 lt2 low2 HO2 hB3 HN
  obtain ⟨c3, o3, f3, q0, q1, q2, q3, lt3, low3, base3⟩ := HO3.out
  have hgp : p ≠ g := fun e => hne (by rw [e]; rfl)
  have u1 := (cell_below (w := w2) (w' := w3) (B := w2.heap.size) hB3' hgl _).trans t1
  have uf := o3.frozenAt
  have hset := (o3.stored (i * 2 + 1) (.string (S y))).1
  rw [cellsE_set l i y hil, hky] at hset
  go_wp2_with fail
  exact bodyPost_end (v := .tuple #[]) (by simp [results, Try.results51, go_sem]) rfl ⟨rfl, ⟨⟨some ⟨g, 0, none⟩, c, by rw [List.length_set]; exact far_block hgp c3, by rw [List.length_set]; exact hset, by rw [List.length_set]; exact hne⟩, by rw [World.frozen?_setCell]; exact f3, by rw [World.size_setCell]; exact lt3, h5⟩, low3.setCell (p := ⟨g, i * 2 + 1, none⟩) hgB _⟩

set_option maxRecDepth 100000 in
set_option maxHeartbeats 4000000 in
theorem on_del (B p : Nat) (l : List Ent) (kd : Nat) (key val : List UInt8) (dl : Nat) (w : World) (h : LeafAt B p l w) (hl : l.length ≤ 100000) (hr : Rising Ent.key l) (hk : kd < 256) (hd : dl < 18446744073709551616) (hc : (Upd.mk kd key val dl).check = 0) (i : Nat) (hi : below Ent.key l key = i) (hh : hasKey Ent.key l key = true) (hil : i < l.length) (_hky : l[i].key = key) (old : List UInt8) (ho : l[i].val = old) (hvl : old.length ≤ 1000000) (y : List UInt8) (hy : onL old true ⟨kd, key, val, dl⟩ = (y, false)) :
    Calls Try.prog 51 #[.pointer (some ⟨p, 0, none⟩), .agg #[.int .u8 kd, .string (S key), .string (S val), .int .u64 dl]] w fun e w' => e = .returned (.tuple #[]) ∧ LeafAt B p (delE l i) w' ∧ Below B w w' := by
  have hchk := fun w => chk kd key val dl hk hd w
  rw [hc] at hchk
  have hfind := fun v w hv => findE v l key w hv (by omega) hr
  rw [hh, hi] at hfind
  have hon := fun w => on_any old true kd key val dl hvl hk hd w
  simp only [onV, hy] at hon
  obtain ⟨⟨a, c, h1, h2, hne⟩, h3, h4, h5⟩ := h
  have HO := Lib.hid (OnAt.start (kd := kd) (key := key) (val := val) (dl := dl) 31 h1 h2 h3 h4 h5)
  have HF := Lib.hid hfind
  have HN := Lib.hid hon
  clear hfind hon hy hc h1 h2 h3 hr hi hh hk hd
  go_enter Try.func51, Try.ntmps51
  go_wp2_with fail
  refine (hchk _).mono ?_
  rintro e w1 ⟨rfl, hB1⟩
  have HO1 := Lib.hid (HO.out.on hB1)
  clear HO hchk hB1
  obtain ⟨c1, o1, f1, q0, q1, q2, q3, lt1, low1, -⟩ := HO1.out
  go_wp2_with fail
  go_region_held3 (fun w' => w'.cell? ⟨p, 0, none⟩ = some (.slice a l.length c) ∧ w'.cell? ⟨w.heap.size, 1, none⟩ = some (.string (S key)) ∧ OnAt B p w.heap.size a c l kd key val dl w w')
    (first | assumption | exact ⟨c1, q1, HO1.out.drew⟩ | exact ⟨HO2.out.cell, HO2.out.q1, HO2.out⟩)
    ((go_at_call 62; go_must (obtain ⟨x0, x1, x2⟩ := ‹_ ∧ _ ∧ OnAt _ _ _ _ _ _ _ _ _ _ _ _›; refine (HF.out _ _ ⟨_, rfl, (SlE.of_own x2.own).2⟩).mono ?_; rintro e w2 ⟨rfl, hB2⟩; have HO2 := Lib.hid (x2.on hB2))))
  clear c1 o1 f1 q0 q1 q2 q3 lt1 low1 HO1 HF
  obtain ⟨c2, o2, f2, q0, q1, q2, q3, lt2, low2, -⟩ := HO2.out
  obtain ⟨g, rfl, hgB, hgl, hrow⟩ := own_at o2 (by omega)
  have t1 := hrow (i * 2 + 1) (.string (S l[i].val)) (cellsE_get l i hil 1 _ rfl)
  rw [ho] at t1
  have hi0 : (0 : Int) ≤ (i : Int) := by omega
  have hi1 : (i : Int) < (l.length : Int) := by omega
  clear hrow
  go_wp2_with fail
  refine (HN.out _).mono ?_
  rintro e w3 ⟨rfl, hB3⟩
  have HO3 := Lib.hid (HO2.out.on hB3)
  have hB3' := hB3
  clear c2 o2 f2 q0 q1 q2 q3 lt2 low2 HO2 hB3 HN
  obtain ⟨c3, o3, f3, q0, q1, q2, q3, lt3, low3, base3⟩ := HO3.out
  have hD := Lib.hid (deleteE B (.slice (some ⟨g, 0, none⟩) l.length c) l i w3 o3 hil (by omega))
  have hwr : IntKind.i64.wrap ((i : Int) + 1) = (i : Int) + 1 := by rw [IntKind.wrap_i64]; omega
  have hob := fun k (e : (Value.slice (some ⟨g, 0, none⟩) l.length c).ownBlock = some k) => (o3.lt k e).1
  have hbz := Nat.le_trans base3 low3.size
  clear o3
  go_wp2_with fail
  refine (hD.out).mono ?_
  rintro e w5 ⟨⟨v3, rfl, hown3, hat3⟩, hg3⟩
  have z1 := hg3.cell c3 (by simpa using fun e => hne e.symm)
  have z2 : w5.frozen? ⟨p, 0, none⟩ = false := (World.frozen?_of_block (hg3.block p (by omega) (fun e => hne e.symm))).trans f3
  obtain ⟨a3, c3', e3⟩ := own_form hown3
  subst e3
  go_wp2_with fail
  refine bodyPost_end (v := .tuple #[]) (by simp [results, Try.results51, go_sem]) rfl ⟨rfl, LeafAt.put rfl z1 z2 hown3 (by rw [hat3]; exact hne) (Nat.lt_of_lt_of_le lt3 hg3.size) h5, (below_grown low3 hg3 hob hbz).setCell (p := ⟨p, 0, none⟩) h5 _⟩

theorem LeafAt.le {B p : Nat} {l : List Ent} {w : World} (h : LeafAt B p l w) : B ≤ w.heap.size := Nat.le_trans h.base (Nat.le_of_lt h.lt)
/-- What an update makes of a leaf in its box. -/
theorem leaf_on (B p : Nat) (l : List Ent) (kd : Nat) (key val : List UInt8) (dl : Nat) (w : World) (h : LeafAt B p l w) (hl : l.length ≤ 100000) (hr : Rising Ent.key l) (hv : ∀ e ∈ l, e.val.length ≤ 1000000) (hk : kd < 256) (hd : dl < 18446744073709551616) :
    Calls Try.prog 51 #[.pointer (some ⟨p, 0, none⟩), .agg #[.int .u8 kd, .string (S key), .string (S val), .int .u64 dl]] w fun e w' => e = .returned (.tuple #[]) ∧ LeafAt B p (onE l ⟨kd, key, val, dl⟩) w' ∧ Below B w w' := by
  by_cases hc : (Upd.mk kd key val dl).check = 0
  · have hc' : ¬ (Upd.mk kd key val dl).check ≠ 0 := by simp [hc]
    unfold onE newE
    rw [if_neg hc']
    cases hh : hasKey Ent.key l key with
    | false =>
      obtain ⟨y, is, hy⟩ : ∃ y is, onL [] false ⟨kd, key, val, dl⟩ = (y, is) := ⟨_, _, rfl⟩
      cases is with
      | false => simpa [hh, hy] using on_nothing B p l kd key val dl w h hl hr hk hd hc _ rfl hh y hy
      | true => simpa [hh, hy] using on_new B p l kd key val dl w h hl hr hk hd hc _ rfl hh (below_le l key) y hy
    | true =>
      obtain ⟨hlt, hkey⟩ := (hr.found key).1 hh
      have ho : oldE l key = (l[below Ent.key l key]'hlt).val := by unfold oldE; rw [List.getElem?_eq_getElem hlt]; rfl
      obtain ⟨y, is, hy⟩ : ∃ y is, onL (oldE l key) true ⟨kd, key, val, dl⟩ = (y, is) := ⟨_, _, rfl⟩
      have hvl : (oldE l key).length ≤ 1000000 := by rw [ho]; exact hv _ (List.getElem_mem _)
      cases is with
      | false => simpa [hh, hy] using on_del B p l kd key val dl w h hl hr hk hd hc _ rfl hh hlt hkey _ ho.symm hvl y hy
      | true => simpa [hh, hy] using on_set B p l kd key val dl w h hl hr hk hd hc _ rfl hh hlt hkey _ ho.symm hvl y hy
  · unfold onE
    rw [if_pos hc]
    refine (on_refused p kd key val dl w hk hd hc).mono ?_
    rintro e w' ⟨rfl, hb⟩
    exact ⟨rfl, h.on hb, hb.mono h.le⟩

end Go.Proofs.Ytcjeonamebnpfaa
