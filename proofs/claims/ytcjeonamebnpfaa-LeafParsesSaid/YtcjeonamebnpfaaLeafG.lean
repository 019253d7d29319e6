/-
  The walk of (leaf.Leaf).Get.
-/
import Derived.Test.YtcjeonamebnpfaaLeafP
namespace Go.Proofs.Ytcjeonamebnpfaa
open Go.RowKit

def valV : Option (List UInt8) → Value
  | none => .tuple #[.string (S []), .bool false]
  | some v => .tuple #[.string (S v), .bool true]

theorem SlAt.cells2 {w : World} {ao : Option Addr} {l : List Ent} (hs : SlAt Ent.cells 2 w ao l) (i : Nat) (hi : i < l.length) :
    ∃ b off, ao = some ⟨b, off, none⟩ ∧ b < w.heap.size ∧ w.cell? ⟨b, off + i * 2, none⟩ = some (.string (S l[i].key)) ∧ w.cell? ⟨b, off + i * 2 + 1, none⟩ = some (.string (S l[i].val)) := by
  obtain ⟨b, off, rfl, hb, hc⟩ := hs.at (by omega)
  obtain ⟨h0, h1⟩ := entCells hc i hi
  exact ⟨b, off, rfl, hb, h0, h1⟩

set_option maxRecDepth 100000 in
set_option maxHeartbeats 2000000 in
theorem getE_none (v : Value) (l : List Ent) (k : List UInt8) (w : World) (hv : BoxE w v l) (hl : l.length ≤ 100000) (hr : Rising Ent.key l) (hno : hasKey Ent.key l k = false) :
    Calls Try.prog 34 #[v, .string (S k)] w fun e w' => e = .returned (valV none) ∧ Below w.heap.size w w' := by
  have hfind := fun w hv => findE v l k w hv (by omega) hr
  rw [hno] at hfind
  obtain ⟨s, rfl, hs⟩ := hv
  have HF := Lib.hid hfind
  have HS := Lib.hid hs
  obtain ⟨ao, c, rfl, hs0, hc1, hc2, hn⟩ := hs
  clear hfind hn hs0 hr
  go_enter Try.func34, Try.ntmps34
  go_wp2_with fail
  refine (thread (HF.out _ ⟨_, rfl, HS.out.kept (by go_grown) (Nat.le_refl _)⟩) w.heap.size w (by go_grown) (by go_grown)).mono ?_
  rintro e w1 ⟨rfl, hB1, -, -, -, -⟩
  go_wp2_with fail
  exact bodyPost_ret (v := valV none) (by simp [results, Try.results34, go_sem, valV]; rfl) rfl ⟨rfl, hB1⟩

set_option maxRecDepth 100000 in
set_option maxHeartbeats 2000000 in
theorem getE_some (v : Value) (l : List Ent) (i : Nat) (hi : i < l.length) (u : Ent) (hu : l[i] = u) (k : List UInt8) (w : World) (hv : BoxE w v l) (hl : l.length ≤ 100000) (hr : Rising Ent.key l) (hb : below Ent.key l k = i) (hno : hasKey Ent.key l k = true) :
    Calls Try.prog 34 #[v, .string (S k)] w fun e w' => e = .returned (valV (some u.val)) ∧ Below w.heap.size w w' := by
  have hfind := fun w hv => findE v l k w hv (by omega) hr
  rw [hno, hb] at hfind
  obtain ⟨s, rfl, hs⟩ := hv
  have HF := Lib.hid hfind
  have HS := Lib.hid hs
  obtain ⟨ao, c, rfl, hs0, hc1, hc2, hn⟩ := hs
  clear hfind hn hr
  have hcl := SlAt.cells2 hs0 i hi
  obtain ⟨b, off, rfl, hbl, t0, t1⟩ := hcl
  clear hs0
  rw [hu] at t0 t1
  go_enter Try.func34, Try.ntmps34
  go_wp2_with fail
  refine (thread (HF.out _ ⟨_, rfl, HS.out.kept (by go_grown) (Nat.le_refl _)⟩) w.heap.size w (by go_grown) (by go_grown)).mono ?_
  rintro e w1 ⟨rfl, hB1, hk1, hf1, hs1, hz1⟩
  have p0 := (hk1 w.heap.size 0 (by first | (simp; done) | (simp; omega))).trans (by simp [go_sem]; rfl)
  have q0 := (cell_below hB1 hbl _).trans t0
  have q1 := (cell_below hB1 hbl _).trans t1
  clear hk1 hf1 hs1
  have hi0 : (0 : Int) ≤ (i : Int) := by omega
  have hi1 : (i : Int) < (l.length : Int) := by omega
  clear hb hno t0 t1 hu
  go_wp2_with fail
  exact bodyPost_ret (v := valV (some u.val)) (by simp [results, Try.results34, go_sem, valV]) rfl ⟨rfl, hB1⟩

theorem getE_any (v : Value) (l : List Ent) (k : List UInt8) (w : World) (hv : BoxE w v l) (hl : l.length ≤ 100000) (hr : Rising Ent.key l) :
    Calls Try.prog 34 #[v, .string (S k)] w fun e w' => e = .returned (valV (lookE l k)) ∧ Below w.heap.size w w' := by
  cases hh : hasKey Ent.key l k with
  | false => rw [lookE_none hh]; exact getE_none v l k w hv hl hr hh
  | true =>
    obtain ⟨hlt, hkey⟩ := (hr.found k).1 hh
    have e : lookE l k = some (l[below Ent.key l k]'hlt).val := by
      have := lookE_at hr _ hlt
      rwa [hkey] at this
    rw [e]
    exact getE_some v l _ hlt _ rfl k w hv hl hr rfl hh

end Go.Proofs.Ytcjeonamebnpfaa
