/-
  The plain law of PickGrows: a count that grows never stands behind where it stood; the walk of its closure.
-/
import Derived.Test.YtfnjomhefklbiaaPickM0
import Derived.Laws.OwnMore
namespace Go.Proofs.Ytfnjomhefklbiaa
open Go.RowKit

theorem pairs_range (C : List Int) : pairs C = (List.range C.length).map fun i : Nat => ((i : Int), C.getD i 0) := by
  refine List.ext_getElem (by simp [pairs_length]) fun i h1 h2 => ?_
  rw [pairs_length] at h1
  simp [pairs_get, h1]
theorem ahead_total {a b : Int × Int} (h : a.1 ≠ b.1) (k : Leq a b) : ahead a b = true := by
  unfold Leq at k
  rw [ahead_iff] at *
  omega
/-- In a list by rising place, where one stands is how many are ahead of it. -/
theorem idx_count : ∀ (L : List (Int × Int)) (x : Int × Int), L.Pairwise (fun a b => ahead a b = true) → (L.map Prod.fst).Nodup → x ∈ L → (L.map Prod.fst).idxOf x.1 = L.countP fun q => ahead q x
  | [], x, _, _, h => by simp at h
  | a :: r, x, hp, hn, h => by
    obtain ⟨p1, p2⟩ := List.pairwise_cons.1 hp
    rw [List.map_cons, List.nodup_cons] at hn
    rcases List.mem_cons.1 h with rfl | hx
    · have e : (r.countP fun q => ahead q x) = 0 := by
        rw [List.countP_eq_zero]
        intro q hq
        exact ahead_asymm (p1 q hq)
      have e0 : ¬ ahead x x = true := by rw [ahead_iff]; omega
      rw [List.countP_cons, e, if_neg e0]
      simp
    · have hne : a.1 ≠ x.1 := fun e => hn.1 (by rw [e]; exact List.mem_map_of_mem hx)
      rw [List.countP_cons, if_pos (p1 x hx), List.map_cons, List.idxOf_cons, cond_eq_ite, if_neg (by simpa using hne), idx_count r x p2 hn.2 hx]
theorem ord_strict (C : List Int) : (ordP C).Pairwise (fun a b => ahead a b = true) := by
  have h1 := (ordP_spec C).2
  have h2 := List.pairwise_map.1 (ord_nodup C)
  exact (h1.and h2).imp fun ⟨a, b⟩ => ahead_total b a
/-- The whole order. -/
abbrev ordL (C : List Int) : List Int := (ordP C).map Prod.fst
theorem ordL_length (C : List Int) : (ordL C).length = C.length := by rw [List.length_map, ordP_length]
theorem ordL_mem {C : List Int} {k : Nat} (h : k < C.length) : (k : Int) ∈ ordL C := List.mem_map_of_mem (f := Prod.fst) ((ordP_spec C).1.symm.subset (pairs_mem h))
theorem ordL_idx {C : List Int} {k : Nat} (h : k < C.length) : (ordL C).idxOf (k : Int) = (List.range C.length).countP fun i : Nat => ahead ((i : Int), C.getD i 0) ((k : Int), C.getD k 0) := by
  have hm : ((k : Int), C.getD k 0) ∈ ordP C := by
    have h2 := (ordP_spec C).1.symm.subset (pairs_mem h)
    simpa [h] using h2
  have h1 := idx_count (ordP C) ((k : Int), C.getD k 0) (ord_strict C) (ord_nodup C) hm
  rw [(ordP_spec C).1.countP_eq, pairs_range, List.countP_map] at h1
  exact h1
theorem ordL_grows {C : List Int} {k : Nat} (h : k < C.length) {y : Int} (hy : 0 ≤ y) : (ordL (C.set k (C[k] + y))).idxOf (k : Int) ≤ (ordL C).idxOf (k : Int) := by
  rw [ordL_idx h, ordL_idx (by rwa [List.length_set]), List.length_set]
  refine List.countP_mono_left fun i hi ha => ?_
  rw [ahead_iff] at *
  simp only [List.getD_eq_getElem?_getD, List.getElem?_set] at *
  by_cases e : k = i
  · subst e
    simp [h] at ha
  · simp [e, h] at ha ⊢
    omega

theorem idxOf_take {l : List Int} {k : Int} {n : Nat} (h : k ∉ l.take n) (hl : n < l.length) (e : l[n] = k) : l.idxOf k = n := by
  have h1 : l = l.take n ++ k :: l.drop (n + 1) := by rw [← e, List.getElem_cons_drop, List.take_append_drop]
  have h2 : (l.take n).length = n := by rw [List.length_take]; omega
  rw [h1, List.idxOf_append, if_neg (by simpa using h)]
  simp [h2]

set_option maxHeartbeats 1000000 in
theorem place_any (ao : Option Addr) (c B : Nat) (l : List Int) (k : Int) (w : World) (hs : IntsAt w ao l) (hl : l.length ≤ 1000000) (hB : w.cell? ⟨B, 0, none⟩ = some (.int .i64 k)) (hk : k ∈ l) :
    Calls Try.prog 26 #[.slice ao l.length c, .pointer (some ⟨B, 0, none⟩)] w fun e w' => e = .returned (.int .i64 (l.idxOf k : Nat)) ∧ w = w' := by
  go_enter Try.func26, Try.ntmps26
  go_wp2_with fail
  go_loop [8] (fun i => ∃ n : Nat, i = .int .i64 n ∧ n ≤ l.length ∧ k ∉ l.take n) (fun i => l.length - (intOf i).toNat)
  case atStart => exact ⟨0, rfl, Nat.zero_le _, by simp⟩
  case round =>
    obtain ⟨n, rfl, hn, hnot⟩ := hrel
    have hn0 : (0 : Int) ≤ (n : Int) := Int.natCast_nonneg _
    by_cases hnl : n < l.length
    · have hn1 : (n : Int) < (l.length : Int) := by omega
      obtain ⟨b, off, rfl, hb, hc⟩ := hs.at (by omega)
      have hcn := hc n hnl 0 _ rfl
      rw [Nat.mul_one, Nat.add_zero] at hcn
      by_cases e : l[n] = k
      · have hix := Lib.hid (idxOf_take hnot hnl e)
        have he : (l[n] == k) = true := by simpa using e
        clear hnot hc e
        generalize l[n] = y at *
        go_wp2_with fail
        go_ret
        exact ⟨ret_int (by rw [hix.out]), rfl⟩
      · have hnot' := Lib.hid (show k ∉ l.take (n + 1) by
          rw [List.take_succ_eq_append_getElem hnl, List.mem_append, not_or]
          exact ⟨hnot, by simpa using fun h => e h.symm⟩)
        have he : (l[n] == k) = false := by simpa using e
        clear hnot hc e
        generalize l[n] = y at *
        go_wp2_with fail
        go_round
        case rel => exact ⟨n + 1, by go_num, by omega, hnot'.out⟩
        case measure => first | (simp [intOf]; done) | (simp [intOf]; omega)
    · exfalso
      rw [List.take_of_length_le (by omega)] at hnot
      exact hnot hk

/-- A row of the call's own stays while new memory is made. -/
theorem Out.past {B : Nat} {v : Value} {r : List Int} {w w' : World} (h : Out B v r w) (hb : Below w.heap.size w w') : Out B v r w' :=
  ⟨h.own.kept (row := none) ⟨hb.os, hb.tape, hb.output, hb.size, fun i hi _ => hb.block i hi⟩ (by cases hv : v.ownBlock <;> simp), h.len⟩
/-- A store into it. -/
theorem Out.store {B g n cap : Nat} {r : List Int} {w : World} (h : Out B (.slice (some ⟨g, 0, none⟩) n cap) r w) (hn : r.length = n) (j : Nat) (hj : j < n) (y : Int) : Out B (.slice (some ⟨g, 0, none⟩) n cap) (r.set j y) (w.setCell ⟨g, j, none⟩ (.int .i64 y)) := by
  subst hn
  have h1 := h.own.stored j (.int .i64 y)
  refine ⟨?_, by rw [List.length_set]; rfl⟩
  rw [List.length_set, show intsV (r.set j y) = (intsV r).set j (.int .i64 y) by simp [intsV, List.map_set]]
  exact h1.1
theorem Out.row {B : Nat} {v : Value} {r : List Int} {w : World} (h : Out B v r w) (h0 : 0 < r.length) : ∃ g c, v = .slice (some ⟨g, 0, none⟩) r.length c ∧ B ≤ g ∧ g < w.heap.size ∧ (∀ (j : Nat) (hj : j < r.length), w.cell? ⟨g, j, none⟩ = some (.int .i64 r[j])) ∧ ∀ j, w.frozen? ⟨g, j, none⟩ = false := by
  obtain ⟨g, c, rfl⟩ := h.own.slice h0
  have hlt := h.own.lt g rfl
  refine ⟨g, c, rfl, hlt.1, hlt.2, fun j hj => ?_, fun j => h.own.frozenAt j⟩
  rw [h.own.cellAt j (by omega)]
  simp [intsV, hj]

end Go.Proofs.Ytfnjomhefklbiaa
