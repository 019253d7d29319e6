/-
  The walks of (buf.Buffer).Get, and of the updates that the statements make.
-/
import Derived.Test.YtcjeonamebnpfaaBoxU
import Derived.Test.YtcjeonamebnpfaaMsgO
import Derived.Test.YtcjeonamebnpfaaUse
import Derived.Deep.RegionHeld3
import Derived.Deep.DrawnRows
namespace Go.Proofs.Ytcjeonamebnpfaa
open Go.RowKit

/-- The one of a key. -/
def getL (l : List Upd) (k : List UInt8) : Option Upd := l.find? fun u => u.key == k
def getV : Option Upd → Value
  | none => .tuple #[updV ⟨0, [], [], 0⟩, .bool false]
  | some u => .tuple #[updV u, .bool true]
theorem getL_none {l : List Upd} {k : List UInt8} (h : hasKey Upd.key l k = false) : getL l k = none := by
  unfold getL
  rw [List.find?_eq_none]
  intro u hu hk
  have : hasKey Upd.key l k = true := hasKey_iff.2 ⟨u, hu, by simpa using hk⟩
  rw [h] at this; exact absurd this (by simp)
theorem getL_some {l : List Upd} (hr : Rising Upd.key l) (i : Nat) (hi : i < l.length) : getL l l[i].key = some l[i] := by
  unfold getL
  rw [List.find?_eq_some_iff_getElem]
  refine ⟨by simp, i, hi, rfl, fun j hj => ?_⟩
  have := bl_ne (hr.lt hj hi)
  simpa using this

set_option maxRecDepth 100000 in
set_option maxHeartbeats 2000000 in
theorem get_none (v : Value) (l : List Upd) (k : List UInt8) (w : World) (hv : BoxU w v l) (hl : l.length ≤ 100000) (hr : Rising Upd.key l) (hno : hasKey Upd.key l k = false) :
    Calls Try.prog 23 #[v, .string (S k)] w fun e w' => e = .returned (getV none) ∧ Below w.heap.size w w' := by
  have hfind := fun w hv => findU v l k w hv (by omega) hr
  rw [hno] at hfind
  obtain ⟨s, rfl, hs⟩ := hv
  have HF := Lib.hid hfind
  have HS := Lib.hid hs
  obtain ⟨ao, c, rfl, hs0, hc1, hc2, hn⟩ := hs
  clear hfind hn hs0 hr
  go_enter Try.func23, Try.ntmps23
  go_wp2_with fail
  refine (thread (HF.out _ ⟨_, rfl, HS.out.kept (by go_grown) (Nat.le_refl _)⟩) w.heap.size w (by go_grown) (by go_grown)).mono ?_
  rintro e w1 ⟨rfl, hB1, hk1, hf1, hs1, hz1⟩
  have hs1' : w.heap.size + 1 < w1.heap.size := by simp at hs1; omega
  have p1 := (hk1 (w.heap.size + 1) 0 (by first | (simp; done) | (simp; omega))).trans (by simp [go_sem]; rfl)
  have p2 := (hk1 (w.heap.size + 1) 1 (by first | (simp; done) | (simp; omega))).trans (by simp [go_sem]; rfl)
  have p3 := (hk1 (w.heap.size + 1) 2 (by first | (simp; done) | (simp; omega))).trans (by simp [go_sem]; rfl)
  have p4 := (hk1 (w.heap.size + 1) 3 (by first | (simp; done) | (simp; omega))).trans (by simp [go_sem]; rfl)
  have p6 : ∀ o, w1.frozen? ⟨w.heap.size + 1, o, none⟩ = false := fun o => (hf1 (w.heap.size + 1) o (by first | (simp; done) | (simp; omega))).trans (by simp [go_sem])
  clear hk1 hf1 hs1
  go_wp2_with fail
  exact bodyPost_ret (v := .tuple #[.agg #[.int .u8 0, .string (S []), .string (S []), .int .u64 0], .bool false]) (by simp [results, Try.results23, go_sem, p1, p2, p3, p4]; rfl) rfl ⟨rfl, by go_grown⟩

set_option maxRecDepth 100000 in
set_option maxHeartbeats 2000000 in
theorem get_some (v : Value) (l : List Upd) (i : Nat) (hi : i < l.length) (u : Upd) (hu : l[i] = u) (k : List UInt8) (w : World) (hv : BoxU w v l) (hl : l.length ≤ 100000) (hr : Rising Upd.key l) (hb : below Upd.key l k = i) (hno : hasKey Upd.key l k = true) :
    Calls Try.prog 23 #[v, .string (S k)] w fun e w' => e = .returned (getV (some u)) ∧ Below w.heap.size w w' := by
  have hfind := fun w hv => findU v l k w hv (by omega) hr
  rw [hno, hb] at hfind
  obtain ⟨s, rfl, hs⟩ := hv
  have HF := Lib.hid hfind
  have HS := Lib.hid hs
  obtain ⟨ao, c, rfl, hs0, hc1, hc2, hn⟩ := hs
  clear hfind hn hr
  have hcl := SlAt.cells4 hs0 i hi
  obtain ⟨b, off, rfl, hbl, t0, t1, t2, t3⟩ := hcl
  clear hs0
  go_enter Try.func23, Try.ntmps23
  go_wp2_with fail
  refine (thread (HF.out _ ⟨_, rfl, HS.out.kept (by go_grown) (Nat.le_refl _)⟩) w.heap.size w (by go_grown) (by go_grown)).mono ?_
  rintro e w1 ⟨rfl, hB1, hk1, hf1, hs1, hz1⟩
  have hs1' : w.heap.size + 1 < w1.heap.size := by simp at hs1; omega
  have p0 := (hk1 w.heap.size 0 (by first | (simp; done) | (simp; omega))).trans (by simp [go_sem]; rfl)
  have p1 := (hk1 (w.heap.size + 1) 0 (by first | (simp; done) | (simp; omega))).trans (by simp [go_sem]; rfl)
  have p2 := (hk1 (w.heap.size + 1) 1 (by first | (simp; done) | (simp; omega))).trans (by simp [go_sem]; rfl)
  have p3 := (hk1 (w.heap.size + 1) 2 (by first | (simp; done) | (simp; omega))).trans (by simp [go_sem]; rfl)
  have p4 := (hk1 (w.heap.size + 1) 3 (by first | (simp; done) | (simp; omega))).trans (by simp [go_sem]; rfl)
  have p6 : ∀ o, w1.frozen? ⟨w.heap.size + 1, o, none⟩ = false := fun o => (hf1 (w.heap.size + 1) o (by first | (simp; done) | (simp; omega))).trans (by simp [go_sem])
  have q0 := (cell_below hB1 hbl _).trans t0
  have q1 := (cell_below hB1 hbl _).trans t1
  have q2 := (cell_below hB1 hbl _).trans t2
  have q3 := (cell_below hB1 hbl _).trans t3
  clear hk1 hf1 hs1
  have hi0 : (0 : Int) ≤ (i : Int) := by omega
  have hi1 : (i : Int) < (l.length : Int) := by omega
  clear hb hno t0 t1 t2 t3
  rw [hu] at q0 q1 q2 q3
  clear hu
  go_wp2_with fail
  exact bodyPost_ret (v := .tuple #[.agg #[.int .u8 u.kind, .string (S u.key), .string (S u.val), .int .u64 u.delta], .bool true]) (by simp [results, Try.results23, go_sem, p1, p2, p3, p4]) rfl ⟨rfl, by go_grown⟩

theorem get_any (v : Value) (l : List Upd) (k : List UInt8) (w : World) (hv : BoxU w v l) (hl : l.length ≤ 100000) (hr : Rising Upd.key l) :
    Calls Try.prog 23 #[v, .string (S k)] w fun e w' => e = .returned (getV (getL l k)) ∧ Below w.heap.size w w' := by
  cases hh : hasKey Upd.key l k with
  | false => rw [getL_none hh]; exact get_none v l k w hv hl hr hh
  | true =>
    obtain ⟨hlt, hkey⟩ := (hr.found k).1 hh
    have e : getL l k = some (l[below Upd.key l k]'hlt) := by
      have := getL_some hr _ hlt
      rwa [hkey] at this
    rw [e]
    exact get_some v l _ hlt _ rfl k w hv hl hr rfl hh

end Go.Proofs.Ytcjeonamebnpfaa
