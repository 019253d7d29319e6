/-
  Nodes as values: children and messages; the walks of (node.Node).Child, Range, and of the document's ChildOf.
-/
import Derived.Test.YtafciefjlkdecaaGreatChd
import Derived.Deep.DeepCutAuto
import Derived.BigQuiet
namespace Go.Proofs.YtafciefjlkdecaaGreat
open Go.RowKit
attribute [local go_sem ↓] Go.wp_at_zero Go.wp_at_succ

theorem addr_ne {b o b' o' : Nat} (h : b ≠ b' ∨ o ≠ o') : (⟨b, o, none⟩ : Addr) ≠ ⟨b', o', none⟩ := fun e => by
  injection e with e1 e2
  omega
theorem SlAt.setAt {α : Type} {enc : α → List Value} {k : Nat} {w : World} {ao : Option Addr} {l : List α} (h : SlAt enc k w ao l) {p : Addr} {a : Option Addr} {n c : Nat} (hp : w.cell? p = some (.slice a n c)) (hne : ∀ x ∈ l, Value.slice a n c ∉ enc x) (u : Value) : SlAt enc k (w.setCell p u) ao l := by
  rcases h with rfl | ⟨b, off, rfl, hb, hc⟩
  · exact Or.inl rfl
  · refine Or.inr ⟨b, off, rfl, by rw [World.size_setCell]; exact hb, fun i hi j x hx => ?_⟩
    have hcell := hc i hi j x hx
    rw [World.cell?_setCell_other]
    · exact hcell
    · intro e
      rw [← e, hp] at hcell
      have hxe : x = .slice a n c := (Option.some.inj hcell).symm
      subst hxe
      exact hne _ (List.getElem_mem hi) (List.mem_of_getElem? hx)
theorem SlC.setAt {w : World} {v : Value} {l : List Chd} (h : SlC w v l) {p : Addr} {a : Option Addr} {n c : Nat} (hp : w.cell? p = some (.slice a n c)) (u : Value) : SlC (w.setCell p u) v l := by
  obtain ⟨ao, c', rfl, hs, h1, h2, h3⟩ := h
  exact ⟨ao, c', rfl, hs.setAt hp (fun x _ => by simp [Chd.cells]) u, h1, h2, h3⟩
theorem SlU.setAt {w : World} {v : Value} {l : List Upd} (h : SlU w v l) {p : Addr} {a : Option Addr} {n c : Nat} (hp : w.cell? p = some (.slice a n c)) (u : Value) : SlU (w.setCell p u) v l := by
  obtain ⟨ao, c', rfl, hs, h1, h2, h3⟩ := h
  exact ⟨ao, c', rfl, hs.setAt hp (fun x _ => by simp [Upd.cells]) u, h1, h2, h3⟩
theorem BoxU.setAt {w : World} {v : Value} {l : List Upd} (h : BoxU w v l) {p : Addr} {a : Option Addr} {n c : Nat} (hp : w.cell? p = some (.slice a n c)) (u : Value) : BoxU (w.setCell p u) v l := by
  obtain ⟨s, rfl, hs⟩ := h
  exact ⟨_, rfl, hs.setAt hp u⟩

/-- A node, the program's or the document's: a slice of children, a slice of messages. -/
structure NodeAt (w : World) (v : Value) (cs : List Chd) (us : List Upd) : Prop where
  form : ∃ a b x y, v = .agg #[.slice a cs.length x, .slice b us.length y] ∧ SlC w (.slice a cs.length x) cs ∧ SlU w (.slice b us.length y) us
theorem NodeAt.kept {w w' : World} {v : Value} {cs : List Chd} {us : List Upd} {B : Nat} (h : NodeAt w v cs us) (hb : Below B w w') (hB : w.heap.size ≤ B) : NodeAt w' v cs us := by
  obtain ⟨a, b, x, y, rfl, h1, h2⟩ := h
  exact ⟨a, b, x, y, rfl, h1.kept hb hB, h2.kept hb hB⟩
theorem NodeAt.mk' {w : World} {a b : Option Addr} {x y n m : Nat} {cs : List Chd} {us : List Upd} (h1 : SlC w (.slice a n x) cs) (h2 : SlU w (.slice b m y) us) : NodeAt w (.agg #[.slice a n x, .slice b m y]) cs us := by
  obtain ⟨a', x', e1, -⟩ := id h1
  obtain ⟨b', y', e2, -⟩ := id h2
  simp only [Value.slice.injEq] at e1 e2
  obtain ⟨rfl, rfl, rfl⟩ := e1
  obtain ⟨rfl, rfl, rfl⟩ := e2
  exact ⟨_, _, _, _, rfl, h1, h2⟩

theorem grown_of_below {W w' : World} {row : Option Nat} (hb : Below W.heap.size W w') : W.grownBy w' row :=
  ⟨hb.os, hb.tape, hb.output, hb.size, fun i hi _ => hb.block i hi⟩

theorem NodeAt.setAt {w : World} {v : Value} {cs : List Chd} {us : List Upd} (h : NodeAt w v cs us) {p : Addr} {a : Option Addr} {n c : Nat} (hp : w.cell? p = some (.slice a n c)) (u : Value) : NodeAt (w.setCell p u) v cs us := by
  obtain ⟨a', b, x, y, rfl, h1, h2⟩ := h
  exact ⟨a', b, x, y, rfl, h1.setAt hp u, h2.setAt hp u⟩

/-- Which child a key belongs to, of the first j. -/
def chAt (l : List Chd) (k : List UInt8) : Nat → Int
  | 0 => -1
  | j + 1 => if h : j < l.length then (if bl k l[j].low = true then chAt l k j else (j : Int)) else chAt l k j
theorem chAt_lt (l : List Chd) (k : List UInt8) : ∀ j, -1 ≤ chAt l k j ∧ chAt l k j < j
  | 0 => by unfold chAt; omega
  | j + 1 => by
    have := chAt_lt l k j
    unfold chAt
    split
    · split <;> omega
    · omega
theorem chAt_yes {l : List Chd} {k : List UInt8} {j : Nat} (h : j < l.length) (hb : bl k l[j].low = false) : chAt l k (j + 1) = j := by
  rw [chAt, dif_pos h, if_neg (by rw [hb]; simp)]
theorem chAt_no {l : List Chd} {k : List UInt8} {j : Nat} (h : j < l.length) (hb : bl k l[j].low = true) : chAt l k (j + 1) = chAt l k j := by
  rw [chAt, dif_pos h, if_pos hb]
/-- .. of all. -/
def chOf (l : List Chd) (k : List UInt8) : Int := chAt l k l.length

set_option maxRecDepth 100000 in
set_option maxHeartbeats 4000000 in
theorem child_any (v : Value) (cs : List Chd) (us : List Upd) (k : List UInt8) (w : World) (h : NodeAt w v cs us) (hl : cs.length ≤ 1000) :
    Calls Tryz.prog 55 #[v, .string (S k)] w fun e w' => e = .returned (.int .i64 (chOf cs k)) ∧ Below w.heap.size w w' := by
  obtain ⟨a, b, x, y, rfl, h1, -⟩ := h
  have hs := h1.at
  clear h1
  go_enter Tryz.func55, Tryz.ntmps55
  go_wp2_with fail
  go_loopw [11, 5] (fun i t wr => ∃ j : Nat, i = .int .i64 j ∧ j ≤ cs.length ∧ t = .int .i64 (chAt cs k j) ∧ Below w.heap.size w wr) (fun i _ _ => cs.length - (intOf i).toNat)
  case atStart => exact ⟨0, rfl, Nat.zero_le _, rfl, by go_grown⟩
  case round =>
    obtain ⟨j, rfl, hj, rfl, hB⟩ := hrel
    have hj0 : (0 : Int) ≤ (j : Int) := Int.natCast_nonneg _
    by_cases hjl : j < cs.length
    · have hj1 : (j : Int) < (cs.length : Int) := by omega
      obtain ⟨b0, off, rfl, hb, t0, t1, t2, t3⟩ := hs.cells4C j hjl
      have q0 := (cell_below hB hb _).trans t0
      have q1 := (cell_below hB hb _).trans t1
      have q2 := (cell_below hB hb _).trans t2
      have q3 := (cell_below hB hb _).trans t3
      clear t0 t1 t2 t3
      cases hb1 : bl k cs[j].low with
      | true =>
        have HC := Lib.hid (chAt_no hjl hb1)
        have hb' : Op.bytesLess cs[j].low k = false := bl_asymm hb1
        have he' : (cs[j].low == k) = false := by simpa using fun e : cs[j].low = k => bl_ne hb1 e.symm
        clear hb1
        generalize cs[j] = c at *
        have HB := Lib.hid (hB.alloc hB.size (.cells #[.string (S c.low), .int .i64 c.addr, .int .u64 c.gen, .int .u32 c.sum] 179))
        clear hB
        go_wp2_with fail
        go_roundw
        (case rel => exact ⟨j + 1, by go_num, by omega, by rw [HC.out], HB.out⟩)
        (case measure => first | (simp [intOf]; done) | (simp [intOf]; omega))
      | false =>
        have HC := Lib.hid (chAt_yes hjl hb1)
        rcases bl_not hb1 with e | e
        · have he' : (cs[j].low == k) = true := by simpa using e
          clear hb1 e
          generalize cs[j] = c at *
          have HB := Lib.hid (hB.alloc hB.size (.cells #[.string (S c.low), .int .i64 c.addr, .int .u64 c.gen, .int .u32 c.sum] 179))
          clear hB
          go_wp2_with fail
          go_roundw
          (case rel => exact ⟨j + 1, by go_num, by omega, by rw [HC.out], HB.out⟩)
          (case measure => first | (simp [intOf]; done) | (simp [intOf]; omega))
        · have hb' : Op.bytesLess cs[j].low k = true := e
          clear hb1 e
          generalize cs[j] = c at *
          have HB := Lib.hid (hB.alloc hB.size (.cells #[.string (S c.low), .int .i64 c.addr, .int .u64 c.gen, .int .u32 c.sum] 179))
          clear hB
          go_wp2_with fail
          go_roundw
          (case rel => exact ⟨j + 1, by go_num, by omega, by rw [HC.out], HB.out⟩)
          (case measure => first | (simp [intOf]; done) | (simp [intOf]; omega))
    · obtain rfl : j = cs.length := by omega
      go_wp2_with fail
      go_ret
      exact ⟨rfl, hB⟩

/-- From which key on, and below which, a child's are. -/
theorem strS_nil : (Value.string ⟨#[]⟩) = .string (S []) := rfl
def rngLow (cs : List Chd) (i : Int) : List UInt8 := if i < 0 then [] else (cs[i.toNat]?.map Chd.low).getD []
def rngHigh (cs : List Chd) (i : Int) : List UInt8 := if i < 0 then [] else if i.toNat < cs.length then (cs[i.toNat + 1]?.map Chd.low).getD [] else []
set_option maxRecDepth 100000 in
set_option maxHeartbeats 4000000 in
theorem range_any (v : Value) (cs : List Chd) (us : List Upd) (i : Int) (w : World) (h : NodeAt w v cs us) (hl : cs.length ≤ 1000) (hi : -9223372036854775808 ≤ i ∧ i ≤ 9223372036854775807) :
    Calls Tryz.prog 76 #[v, .int .i64 i] w fun e w' => e = .returned (.tuple #[.string (S (rngLow cs i)), .string (S (rngHigh cs i))]) ∧ Below w.heap.size w w' := by
  obtain ⟨a, b, x, y, rfl, h1, -⟩ := h
  have hs := h1.at
  clear h1
  by_cases h0 : i < 0
  · have HL := Lib.hid (show rngLow cs i = [] by unfold rngLow; rw [if_pos h0])
    have HH := Lib.hid (show rngHigh cs i = [] by unfold rngHigh; rw [if_pos h0])
    have hd : decide (i < 0) = true := by simpa using h0
    go_enter Tryz.func76, Tryz.ntmps76
    go_wp2_with fail
    go_ret2
    exact ⟨by rw [HL.out, HH.out]; rfl, by go_grown⟩
  · obtain ⟨q, rfl⟩ : ∃ q : Nat, i = (q : Int) := ⟨i.toNat, by omega⟩
    have hq0 : (0 : Int) ≤ (q : Int) := Int.natCast_nonneg _
    by_cases hq : q < cs.length
    · obtain ⟨b0, off, rfl, hb, t0, -, -, -⟩ := hs.cells4C q hq
      have q0 := cell_past (.cells #[.slice (some ⟨b0, off, none⟩) cs.length x, .slice b us.length y] 105) t0
      have hq1 : (q : Int) < (cs.length : Int) := by omega
      have HL := Lib.hid (show rngLow cs q = cs[q].low by unfold rngLow; rw [if_neg h0, Int.toNat_natCast, List.getElem?_eq_getElem hq]; rfl)
      by_cases hq2 : q + 1 < cs.length
      · obtain ⟨b1, off1, e1, hb1, u0, -, -, -⟩ := hs.cells4C (q + 1) hq2
        simp only [Option.some.injEq, Addr.mk.injEq, and_true] at e1
        obtain ⟨rfl, rfl⟩ := e1
        have q1 := cell_past (.cells #[.slice (some ⟨b0, off, none⟩) cs.length x, .slice b us.length y] 105) u0
        have HH := Lib.hid (show rngHigh cs q = cs[q + 1].low by unfold rngHigh; rw [if_neg h0, Int.toNat_natCast, if_pos hq, List.getElem?_eq_getElem hq2]; rfl)
        have hq3 : (q : Int) + 1 < (cs.length : Int) := by omega
        clear t0 u0 hs h0
        generalize cs[q] = c0 at *
        generalize cs[q + 1] = c1 at *
        go_enter Tryz.func76, Tryz.ntmps76
        go_wp2_with fail
        go_ret2
        exact ⟨by rw [HL.out, HH.out]; rfl, by go_grown⟩
      · have HH := Lib.hid (show rngHigh cs q = [] by unfold rngHigh; rw [if_neg h0, Int.toNat_natCast, if_pos hq, List.getElem?_eq_none (by omega)]; rfl)
        have hq3 : ¬ (q : Int) + 1 < (cs.length : Int) := by omega
        clear t0 hs h0
        generalize cs[q] = c0 at *
        go_enter Tryz.func76, Tryz.ntmps76
        go_wp2_with fail
        go_ret2
        exact ⟨by rw [HL.out, HH.out]; rfl, by go_grown⟩
    · have HL := Lib.hid (show rngLow cs q = [] by unfold rngLow; rw [if_neg h0, Int.toNat_natCast, List.getElem?_eq_none (by omega)]; rfl)
      have HH := Lib.hid (show rngHigh cs q = [] by unfold rngHigh; rw [if_neg h0, Int.toNat_natCast, if_neg hq])
      have hq3 : (cs.length : Int) ≤ (q : Int) := by omega
      clear hs h0
      go_enter Tryz.func76, Tryz.ntmps76
      go_wp2_with fail
      go_ret2
      exact ⟨by rw [HL.out, HH.out]; rfl, by go_grown⟩

end Go.Proofs.YtafciefjlkdecaaGreat
