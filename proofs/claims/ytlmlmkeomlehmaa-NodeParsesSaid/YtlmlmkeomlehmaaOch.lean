/-
  How arguments are opened that are slices of children.
-/
import Derived.Test.YtlmlmkeomlehmaaZla
import Derived.Test.YtlmlmkeomlehmaaNpw
namespace Go.Proofs.Ytlmlmkeomlehmaa
open Go.ChangeShapes Go.WideShapes Go.ChangeAt Go.RowKit Go.Deep Go.Joins

instance : Inhabited Chd := ⟨⟨[], 0, 0, 0⟩⟩
/-- An argument that is a slice of children. -/
structure ArgChds (w : World) (v : Value) (l : List Chd) : Prop where
  form : ∃ ao c, v = .slice ao l.length c ∧ SlAt Chd.cells 4 w ao l ∧ l.length ≤ c
  wf : ∀ u ∈ l, u.Wf
  size : ∀ u ∈ l, u.low.length ≤ 140737488355328

set_option maxHeartbeats 1000000 in
theorem open_chds {H : Type} {enc : TypeId × Value → H} {P : Program} {w : World} {base : Nat} {spare : Nat → Bool} {held : Bool} {r : Reach} {b0 : Nat} {t e : TypeId} {f0 f1 f2 f3 : Field} {v : Value} {d : DataW H} {p : List MemPlace}
    (ht : P.underlying t = some (.slice e)) (he : P.underlying e = some (.struct #[f0, f1, f2, f3])) (hone : oneCellFields P #[f0, f1, f2, f3] = true) (hC : P.cellsOf e = 4)
    (h0 : P.underlying f0.type = some .string) (h1 : P.underlying f1.type = some (.int .i64)) (h2 : P.underlying f2.type = some (.int .u64)) (h3 : P.underlying f3.type = some (.int .u32))
    (hv : Value.okWide P w r b0 t v) (h : DataW.Trod enc P w base spare held t v d p) (hsz : ∀ n ∈ d.weights P t, n ≤ reachBytes) : ∃ l, ArgChds w v l := by
  obtain ⟨a, len, cap, rfl⟩ := okWide_slice ht hv
  obtain ⟨fuel, hf⟩ := h
  rcases open_slice ht hf with ⟨hcs, -⟩ | ⟨a', len', cap', m, n, D, Pl, hcs, -, hl, hm, hmm, hx, hel⟩
  · simp only [Value.cells, List.cons.injEq, and_true, Value.slice.injEq] at hcs
    obtain ⟨rfl, rfl, rfl⟩ := hcs
    exact ⟨[], ⟨none, 0, rfl, Or.inl rfl, Nat.le_refl _⟩, fun x hx => by simp at hx, fun x hx => by simp at hx⟩
  · simp only [Value.cells, List.cons.injEq, and_true, Value.slice.injEq] at hcs
    obtain ⟨rfl, rfl, rfl⟩ := hcs
    simp only [Prod.mk.injEq] at hx
    obtain ⟨rfl, rfl⟩ := hx
    have hlm : len ≤ m := by rw [hmm]; split <;> omega
    obtain ⟨o0, k0⟩ := hone_of hone 0 f0 rfl
    obtain ⟨o1, k1⟩ := hone_of hone 1 f1 rfl
    obtain ⟨o2, k2⟩ := hone_of hone 2 f2 rfl
    obtain ⟨o3, k3⟩ := hone_of hone 3 f3 rfl
    have key : ∀ i, i < len → ∃ u : Chd, (∀ j x, (Chd.cells u)[j]? = some x → w.cell? ((a'.add (i * 4)).add j) = some x) ∧ u.Wf ∧ u.low.length ≤ 140737488355328 := by
      intro i hi
      obtain ⟨cs', hcs, htr⟩ := hel i (by omega)
      rw [hC] at hcs
      obtain ⟨-, hlen, hcell⟩ := World.cells?_some hcs
      obtain ⟨y0, y1, y2, y3, n', hy, -, t0, t1, t2, t3⟩ := trod_struct4 he htr
      match cs', hlen with
      | [c0, c1, c2, c3], _ =>
        simp only [o0, o1, o2, o3, k0, k1, k2, k3] at t0 t1 t2 t3
        obtain ⟨s0, e0, g0, b0⟩ := DataW.trod_string h0 t0
        obtain ⟨x1, e1, g1, b1⟩ := DataW.trod_int h1 t1
        obtain ⟨x2, e2, g2, b2⟩ := DataW.trod_int h2 t2
        obtain ⟨x3, e3, g3, b3⟩ := DataW.trod_int h3 t3
        simp at e0 e1 e2 e3
        subst e0 e1 e2 e3
        have q1 := bounds_i64 b1
        have q2 := bounds_u64 b2
        have q3 := bounds_u32 b3
        obtain ⟨l0, rfl⟩ := S_ex s0
        have hD : D i = .agg [.lit (.string (S l0).data.toList), .lit (.int .i64 x1), .lit (.int .u64 x2), .lit (.int .u32 x3)] := by
          have := congrArg Prod.fst hy
          rw [g0, g1, g2, g3] at this
          exact this
        have hw : ∀ n ∈ (D i).weights P e, n ≤ reachBytes := fun n hn => hsz n (by
          simp only [DataW.weights, ht, List.mem_cons, List.mem_append]
          exact Or.inr (Or.inl (weights_mem_all (List.mem_map.2 ⟨i, List.mem_range.2 hi, rfl⟩) n hn)))
        rw [hD] at hw
        simp only [DataW.weights, he, DataW.weightsEach, List.map_cons, List.map_nil, List.append_nil, S_data] at hw
        have w1 := hw l0.length (by simp)
        have hr := reachBytes_lt
        refine ⟨⟨l0, x1, x2.toNat, x3.toNat⟩, fun j x hj => ?_, ⟨by show -9223372036854775808 ≤ x1 ∧ x1 ≤ 9223372036854775807; omega, by show x2.toNat < 18446744073709551616; omega, by show x3.toNat < 4294967296; omega⟩, by show l0.length ≤ _; omega⟩
        have ex2 : ((x2.toNat : Nat) : Int) = x2 := by omega
        have ex3 : ((x3.toNat : Nat) : Int) = x3 := by omega
        have hj4 : j < 4 := by have := (List.getElem?_eq_some_iff.1 hj).1; simpa [Chd.cells] using this
        rw [hcell j hj4, ← hj]
        simp only [Chd.cells, ex2, ex3]
    obtain ⟨U, hU⟩ := choose_lt key
    have hmem : ∀ u ∈ (List.range len).map U, ∃ i, i < len ∧ u = U i := fun u hu => by
      obtain ⟨i, hi, rfl⟩ := List.mem_map.1 hu
      exact ⟨i, List.mem_range.1 hi, rfl⟩
    have hlen : ((List.range len).map U).length = len := by simp
    refine ⟨(List.range len).map U, ⟨some a', cap, by rw [hlen], ?_, by rw [hlen]; exact hl⟩, fun u hu => ?_, fun u hu => ?_⟩
    · by_cases hp : 0 < len
      · have hc0 := (hU 0 hp).1 0 _ rfl
        obtain ⟨b, off, spot⟩ := a'
        have hspot : spot = none := by simpa [Addr.add] using World.cell?_spot hc0
        subst hspot
        refine Or.inr ⟨b, off, rfl, World.block_lt_of_cell? w _ hc0, fun i hi j x hx => ?_⟩
        have hi' : i < len := by rwa [hlen] at hi
        have := (hU i hi').1 j x (by simpa using hx)
        rw [Go.WideShapes.add_plain, Go.WideShapes.add_plain] at this
        exact this
      · exact Or.inl (List.eq_nil_of_length_eq_zero (by omega))
    · obtain ⟨i, hi, rfl⟩ := hmem u hu
      exact (hU i hi).2.1
    · obtain ⟨i, hi, rfl⟩ := hmem u hu
      exact (hU i hi).2.2

theorem ArgUpds.at' {w : World} {v : Value} {l : List Upd} (h : ArgUpds w v l) : ∃ ao c, v = .slice ao l.length c ∧ SlAt Upd.cells 4 w ao l ∧ l.length ≤ c := by
  obtain ⟨ao, c, e, hs, hc, -⟩ := h.form
  exact ⟨ao, c, e, hs, hc⟩

end Go.Proofs.Ytlmlmkeomlehmaa
