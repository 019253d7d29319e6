/-
  How a slice of acts is opened.
-/
import Derived.Test.YthcjcmalfnfjkaaHpl
import Derived.SizedLaws
import Derived.Deep.Slices
namespace Go.Proofs.Ythcjcmalfnfjkaa
open Go.ChangeShapes Go.WideShapes Go.ChangeAt Go.RowKit Go.Deep Go.Joins
open Go.ChangeMaps (open_string shut_string)
set_option linter.unusedVariables false

set_option maxHeartbeats 2000000 in
theorem open_acts {H : Type} {enc : TypeId × Value → H} {P : Program} {w : World} {base : Nat} {spare : Nat → Bool} {held : Bool} {r : Reach} {bb0 : Nat} {t e : TypeId} {g0 g1 g2 f0 f1 f2 f3 : Field} {v : Value} {d : DataW H} {p : List MemPlace}
    (ht : P.underlying t = some (.slice e)) (he : P.underlying e = some (.struct #[g0, g1, g2])) (hC : P.cellsOf e = 6)
    (o0' : g0.offset = 0) (o1' : g1.offset = 1) (o2' : g2.offset = 2) (n0 : P.cellsOf g0.type = 1) (n1 : P.cellsOf g1.type = 1) (n2 : P.cellsOf g2.type = 4) (hg0 : P.underlying g0.type = some (.int .i64)) (hg1 : P.underlying g1.type = some (.int .i64)) (hg2 : P.underlying g2.type = some (.struct #[f0, f1, f2, f3]))
    (hone : oneCellFields P #[f0, f1, f2, f3] = true)
    (h0 : P.underlying f0.type = some (.int .u8)) (h1 : P.underlying f1.type = some .string) (h2 : P.underlying f2.type = some .string) (h3 : P.underlying f3.type = some (.int .u64)) (hv : Value.okWide P w r bb0 t v)
    (h : DataW.Trod enc P w base spare held t v d p) (hsz : ∀ n ∈ d.weights P t, n ≤ reachBytes) : ∃ l, ArgActs w v l := by
  obtain ⟨a, len, cap, rfl⟩ := okWide_slice ht hv
  obtain ⟨fuel, hf⟩ := h
  rcases open_slice ht hf with ⟨hcs, -⟩ | ⟨a', len', cap', m, n, D, Pl, hcs, -, hl, hm, hmm, hx, hel⟩
  · simp only [Value.cells, List.cons.injEq, and_true, Value.slice.injEq] at hcs
    obtain ⟨rfl, rfl, rfl⟩ := hcs
    exact ⟨[], ⟨none, 0, rfl, Or.inl rfl, Nat.le_refl _, by omega⟩, fun x hx => by simp at hx, fun x hx => by simp at hx, fun x hx => by simp at hx⟩
  · simp only [Value.cells, List.cons.injEq, and_true, Value.slice.injEq] at hcs
    obtain ⟨rfl, rfl, rfl⟩ := hcs
    simp only [Prod.mk.injEq] at hx
    obtain ⟨rfl, rfl⟩ := hx
    have hlm : len ≤ m := by rw [hmm]; split <;> omega
    obtain ⟨o0, k0⟩ := hone_of hone 0 f0 rfl
    obtain ⟨o1, k1⟩ := hone_of hone 1 f1 rfl
    obtain ⟨o2, k2⟩ := hone_of hone 2 f2 rfl
    obtain ⟨o3, k3⟩ := hone_of hone 3 f3 rfl
    have key : ∀ i, i < len → ∃ u : ActP, (∀ j x, (ActP.cells u)[j]? = some x → w.cell? ((a'.add (i * 6)).add j) = some x) ∧ u.u.Wf ∧ (u.u.key.length ≤ 140737488355328 ∧ u.u.val.length ≤ 140737488355328) ∧ ((-9223372036854775808 ≤ u.dv ∧ u.dv ≤ 9223372036854775807) ∧ (-9223372036854775808 ≤ u.nv ∧ u.nv ≤ 9223372036854775807)) := by
      intro i hi
      obtain ⟨cs', hcs, htr⟩ := hel i (by omega)
      rw [hC] at hcs
      obtain ⟨-, hlen, hcell⟩ := World.cells?_some hcs
      obtain ⟨z0, z1, z2, n', hy', -, s0, s1, s2⟩ := trod_struct3 he htr
      match cs', hlen with
      | [a0, a1, c0, c1, c2, c3], _ =>
        simp only [o0', o1', o2', n0, n1, n2] at s0 s1 s2
        obtain ⟨x0', e0', g0', b0'⟩ := DataW.trod_int hg0 s0
        obtain ⟨x1', e1', g1', b1'⟩ := DataW.trod_int hg1 s1
        obtain ⟨y0, y1, y2, y3, n'', hy, -, t0, t1, t2, t3⟩ := trod_struct4 hg2 s2
        simp only [o0, o1, o2, o3, k0, k1, k2, k3] at t0 t1 t2 t3
        obtain ⟨x0, e0, q0', b0⟩ := DataW.trod_int h0 t0
        obtain ⟨s1', e1, q1', b1⟩ := DataW.trod_string h1 t1
        obtain ⟨s2', e2, q2', b2⟩ := DataW.trod_string h2 t2
        obtain ⟨x3, e3, q3', b3⟩ := DataW.trod_int h3 t3
        simp at e0 e1 e2 e3 e0' e1'
        subst e0 e1 e2 e3 e0' e1'
        have q0 := bounds_u8 b0
        have q3 := bounds_u64 b3
        have r0 := bounds_i64 b0'
        have r1 := bounds_i64 b1'
        obtain ⟨l1, rfl⟩ := S_ex s1'
        obtain ⟨l2, rfl⟩ := S_ex s2'
        have hD2 : z2.1 = .agg [.lit (.int .u8 x0), .lit (.string (S l1).data.toList), .lit (.string (S l2).data.toList), .lit (.int .u64 x3)] := by
          have := congrArg Prod.fst hy
          rw [q0', q1', q2', q3'] at this
          exact this
        have hD : D i = .agg [.lit (.int .i64 x0'), .lit (.int .i64 x1'), .agg [.lit (.int .u8 x0), .lit (.string (S l1).data.toList), .lit (.string (S l2).data.toList), .lit (.int .u64 x3)]] := by
          have := congrArg Prod.fst hy'
          rw [g0', g1', hD2] at this
          exact this
        have hw : ∀ n ∈ (D i).weights P e, n ≤ reachBytes := fun n hn => hsz n (by
          simp only [DataW.weights, ht, List.mem_cons, List.mem_append]
          exact Or.inr (Or.inl (weights_mem_all (List.mem_map.2 ⟨i, List.mem_range.2 hi, rfl⟩) n hn)))
        rw [hD] at hw
        simp only [DataW.weights, he, hg2, DataW.weightsEach, List.mem_append, List.map_cons, List.map_nil, List.nil_append, List.append_nil, S_data] at hw
        have w1 := hw l1.length (by simp)
        have w2 := hw l2.length (by simp)
        have hr := reachBytes_lt
        refine ⟨⟨x0', x1', ⟨x0.toNat, l1, l2, x3.toNat⟩⟩, fun j x hj => ?_, ⟨by show x0.toNat < 256; omega, by show x3.toNat < 18446744073709551616; omega⟩, ⟨by show l1.length ≤ _; omega, by show l2.length ≤ _; omega⟩, r0, r1⟩
        have ex0 : ((x0.toNat : Nat) : Int) = x0 := by omega
        have ex3 : ((x3.toNat : Nat) : Int) = x3 := by omega
        have hj6 : j < 6 := by have := (List.getElem?_eq_some_iff.1 hj).1; simpa [ActP.cells] using this
        rw [hcell j hj6, ← hj]
        simp only [ActP.cells, ex0, ex3]
    obtain ⟨U, hU⟩ := choose_lt key
    have hmem : ∀ u ∈ (List.range len).map U, ∃ i, i < len ∧ u = U i := fun u hu => by
      obtain ⟨i, hi, rfl⟩ := List.mem_map.1 hu
      exact ⟨i, List.mem_range.1 hi, rfl⟩
    have hlen : ((List.range len).map U).length = len := by simp
    refine ⟨(List.range len).map U, ⟨some a', cap, by rw [hlen], ?_, by rw [hlen]; exact hl, by unfold maxLen at hm; omega⟩, fun u hu => ?_, fun u hu => ?_, fun u hu => ?_⟩
    · by_cases hp : 0 < len
      · have hc0 := (hU 0 hp).1 0 _ rfl
        obtain ⟨b, off, spot⟩ := a'
        have hspot : spot = none := by simpa [Addr.add] using World.cell?_spot hc0
        subst hspot
        refine Or.inr ⟨b, off, rfl, World.block_lt_of_cell? w _ hc0, fun i hi j x hx => ?_⟩
        have hi' : i < len := by rwa [hlen] at hi
        have := (hU i hi').1 j x (by simpa using hx)
        rw [Go.WideShapes.add_plain, Go.WideShapes.add_plain] at this
        exact this
      · exact Or.inl (List.eq_nil_of_length_eq_zero (by omega))
    · obtain ⟨i, hi, rfl⟩ := hmem u hu
      exact (hU i hi).2.1
    · obtain ⟨i, hi, rfl⟩ := hmem u hu
      exact (hU i hi).2.2.1
    · obtain ⟨i, hi, rfl⟩ := hmem u hu
      exact (hU i hi).2.2.2

end Go.Proofs.Ythcjcmalfnfjkaa
