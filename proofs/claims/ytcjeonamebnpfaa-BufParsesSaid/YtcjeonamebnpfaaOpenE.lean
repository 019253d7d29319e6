/-
  How arguments are opened that are slices of entries, or arrays of two short numbers.
-/
import Derived.Test.YtcjeonamebnpfaaLaw
import Derived.Test.YtcjeonamebnpfaaOpen
import Derived.Test.YtcjeonamebnpfaaCloneE
import Derived.SizedLaws
import Derived.Deep.Slices
namespace Go.Proofs.Ytcjeonamebnpfaa
open Go.ChangeShapes Go.WideShapes Go.ChangeAt Go.RowKit Go.Deep Go.Joins

instance : Inhabited Ent := ⟨⟨[], []⟩⟩
/-- An argument that is a slice of entries. -/
structure ArgEnts (w : World) (v : Value) (l : List Ent) : Prop where
  form : SlE w v l
  size : ∀ u ∈ l, u.key.length ≤ 140737488355328 ∧ u.val.length ≤ 140737488355328

set_option maxHeartbeats 1000000 in
theorem open_ents {H : Type} {enc : TypeId × Value → H} {P : Program} {w : World} {base : Nat} {spare : Nat → Bool} {held : Bool} {r : Reach} {b0 : Nat} {t e : TypeId} {f0 f1 : Field} {v : Value} {d : DataW H} {p : List MemPlace}
    (ht : P.underlying t = some (.slice e)) (he : P.underlying e = some (.struct #[f0, f1])) (hone : oneCellFields P #[f0, f1] = true) (hC : P.cellsOf e = 2)
    (h0 : P.underlying f0.type = some .string) (h1 : P.underlying f1.type = some .string)
    (hv : Value.okWide P w r b0 t v) (h : DataW.Trod enc P w base spare held t v d p) (hsz : ∀ n ∈ d.weights P t, n ≤ reachBytes) : ∃ l, ArgEnts w v l := by
  obtain ⟨a, len, cap, rfl⟩ := okWide_slice ht hv
  obtain ⟨fuel, hf⟩ := h
  rcases open_slice ht hf with ⟨hcs, -⟩ | ⟨a', len', cap', m, n, D, Pl, hcs, -, hl, hm, hmm, hx, hel⟩
  · simp only [Value.cells, List.cons.injEq, and_true, Value.slice.injEq] at hcs
    obtain ⟨rfl, rfl, rfl⟩ := hcs
    exact ⟨[], SlE.nil w, fun x hx => by simp at hx⟩
  · simp only [Value.cells, List.cons.injEq, and_true, Value.slice.injEq] at hcs
    obtain ⟨rfl, rfl, rfl⟩ := hcs
    simp only [Prod.mk.injEq] at hx
    obtain ⟨rfl, rfl⟩ := hx
    have hlm : len ≤ m := by rw [hmm]; split <;> omega
    obtain ⟨o0, k0⟩ := hone_of hone 0 f0 rfl
    obtain ⟨o1, k1⟩ := hone_of hone 1 f1 rfl
    have key : ∀ i, i < len → ∃ u : Ent, (∀ j x, (Ent.cells u)[j]? = some x → w.cell? ((a'.add (i * 2)).add j) = some x) ∧ u.key.length ≤ 140737488355328 ∧ u.val.length ≤ 140737488355328 := by
      intro i hi
      obtain ⟨cs', hcs, htr⟩ := hel i (by omega)
      rw [hC] at hcs
      obtain ⟨-, hlen, hcell⟩ := World.cells?_some hcs
      obtain ⟨y0, y1, n', hy, -, t0, t1⟩ := trod_struct2 he htr
      match cs', hlen with
      | [c0, c1], _ =>
        simp only [o0, o1, k0, k1] at t0 t1
        obtain ⟨s1, e1, g1, b1⟩ := DataW.trod_string h0 t0
        obtain ⟨s2, e2, g2, b2⟩ := DataW.trod_string h1 t1
        simp at e1 e2
        subst e1 e2
        obtain ⟨l1, rfl⟩ := S_ex s1
        obtain ⟨l2, rfl⟩ := S_ex s2
        have hD : D i = .agg [.lit (.string (S l1).data.toList), .lit (.string (S l2).data.toList)] := by
          have := congrArg Prod.fst hy
          rw [g1, g2] at this
          exact this
        have hw : ∀ n ∈ (D i).weights P e, n ≤ reachBytes := fun n hn => hsz n (by
          simp only [DataW.weights, ht, List.mem_cons, List.mem_append]
          exact Or.inr (Or.inl (weights_mem_all (List.mem_map.2 ⟨i, List.mem_range.2 hi, rfl⟩) n hn)))
        rw [hD] at hw
        simp only [DataW.weights, he, DataW.weightsEach, List.mem_append, List.map_cons, List.map_nil, List.append_nil, S_data] at hw
        have w1 := hw l1.length (by simp)
        have w2 := hw l2.length (by simp)
        have hr := reachBytes_lt
        refine ⟨⟨l1, l2⟩, fun j x hj => ?_, by show l1.length ≤ _; omega, by show l2.length ≤ _; omega⟩
        have hj4 : j < 2 := by have := (List.getElem?_eq_some_iff.1 hj).1; simpa [Ent.cells] using this
        rw [hcell j hj4, ← hj]
        simp only [Ent.cells]
    obtain ⟨U, hU⟩ := choose_lt key
    have hmem : ∀ u ∈ (List.range len).map U, ∃ i, i < len ∧ u = U i := fun u hu => by
      obtain ⟨i, hi, rfl⟩ := List.mem_map.1 hu
      exact ⟨i, List.mem_range.1 hi, rfl⟩
    have hlen : ((List.range len).map U).length = len := by simp
    refine ⟨(List.range len).map U, ⟨some a', cap, by rw [hlen], ?_, by rw [hlen]; exact hl, by unfold maxLen at hm; omega, fun e => by simp at e⟩, fun u hu => ?_⟩
    · by_cases hp : 0 < len
      · have hc0 := (hU 0 hp).1 0 _ rfl
        obtain ⟨b, off, spot⟩ := a'
        have hspot : spot = none := by simpa [Addr.add] using World.cell?_spot hc0
        subst hspot
        refine Or.inr ⟨b, off, rfl, World.block_lt_of_cell? w _ hc0, fun i hi j x hx => ?_⟩
        have hi' : i < len := by rwa [hlen] at hi
        have := (hU i hi').1 j x (by simpa using hx)
        rw [Go.WideShapes.add_plain, Go.WideShapes.add_plain] at this
        exact this
      · exact Or.inl (List.eq_nil_of_length_eq_zero (by omega))
    · obtain ⟨i, hi, rfl⟩ := hmem u hu
      exact (hU i hi).2

theorem open_arr2u {H : Type} {enc : TypeId × Value → H} {P : Program} {w : World} {base : Nat} {spare : Nat → Bool} {held : Bool} {r : Reach} {b0 : Nat} {t e : TypeId} {v : Value} {d : DataW H} {p : List MemPlace} (ht : P.underlying t = some (.array 2 e)) (he : P.underlying e = some (.int .u16)) (hC : P.cellsOf t = 2) (hE : P.cellsOf e = 1)
    (hv : Value.okWide P w r b0 t v) (h : DataW.Trod enc P w base spare held t v d p) : ∃ a b : Nat, v = .agg #[.int .u16 a, .int .u16 b] ∧ a < 65536 ∧ b < 65536 := by
  unfold Value.okWide at hv
  rw [ht] at hv
  obtain ⟨cs, rfl, hsz, -⟩ := hv
  obtain ⟨c0, c1, rfl⟩ : ∃ c0 c1, cs = #[c0, c1] := by
    have h2 : cs.size = 2 := hsz.trans hC
    obtain ⟨l⟩ := cs
    match l, h2 with
    | [a, b], _ => exact ⟨a, b, rfl⟩
  obtain ⟨fuel, hf⟩ := h
  obtain ⟨xs, m, -, -, -, hl, hx⟩ := DataW.trod_array ht hf
  simp only [Value.cells, hE] at hx
  match xs, hl with
  | [x0, x1], _ =>
    have e0 := hx 0 (by omega)
    have e1 := hx 1 (by omega)
    simp at e0 e1
    obtain ⟨a, ha, -, ba⟩ := DataW.trod_int he e0
    obtain ⟨b, hb, -, bb⟩ := DataW.trod_int he e1
    simp at ha hb
    subst ha hb
    have qa := bounds_u16 ba
    have qb := bounds_u16 bb
    exact ⟨a.toNat, b.toNat, by rw [Int.toNat_of_nonneg qa.1, Int.toNat_of_nonneg qb.1], by omega, by omega⟩

end Go.Proofs.Ytcjeonamebnpfaa
