/-
  The statement SeekRest, proved: the Go text returns true whatever the input, and what came in reads as it did. No condition.
-/
import Derived.Test.YthcjcmalfnfjkaaRows
import Derived.Test.YthcjcmalfnfjkaaZla
import Derived.Test.YthcjcmalfnfjkaaSky
namespace Go.Proofs.Ythcjcmalfnfjkaa.lawSeekRest
open Go.ChangeShapes Go.WideShapes Go.ChangeAt Go.RowKit Go.Deep Go.Joins
open Go.ChangeMaps (open_string shut_string)
set_option linter.unusedVariables false

theorem open_nums0 {H : Type} {enc : TypeId × Value → H} {P : Program} {w : World} {base : Nat} {spare : Nat → Bool} {held : Bool} {k : IntKind} {t e : TypeId} {v : Value} {d : DataW H} {p : List MemPlace}
    (ht : P.underlying t = some (.slice e)) (he : P.underlying e = some (.int k)) (hc : P.cellsOf e = 1) (hv : ∃ a len cap, v = .slice a len cap) (h : DataW.Trod enc P w base spare held t v d p) : ∃ l, ArgNums k w v l := by
  obtain ⟨a, len, cap, rfl⟩ := hv
  obtain ⟨fuel, hf⟩ := h
  rcases open_ints ht he hc hf with ⟨hcs, -⟩ | ⟨a', len', cap', zs, hcs, -, hl, hm, hz, -, hcell, hwz⟩
  · simp only [Value.cells, List.cons.injEq, and_true, Value.slice.injEq] at hcs
    obtain ⟨rfl, rfl, rfl⟩ := hcs
    exact ⟨[], ⟨none, 0, rfl, Or.inl rfl, Nat.le_refl _, by omega, fun _ => rfl⟩, fun x hx => by simp at hx⟩
  · simp only [Value.cells, List.cons.injEq, and_true, Value.slice.injEq] at hcs
    obtain ⟨rfl, rfl, rfl⟩ := hcs
    have hlz : len ≤ zs.length := by rw [hz]; split <;> omega
    have hlen : (zs.take len).length = len := by rw [List.length_take]; omega
    refine ⟨zs.take len, ⟨some a', cap, by rw [hlen], ?_, by rw [hlen]; exact hl, by unfold maxLen at hm; omega, fun e => by simp at e⟩, fun x hx => hwz x (List.mem_of_mem_take hx)⟩
    by_cases h0 : 0 < len
    · obtain ⟨b, off, rfl, hc'⟩ := ints_at hcell (by omega)
      refine Or.inr ⟨b, off, rfl, World.block_lt_of_cell? w _ (hc' 0 (by omega)), fun i hi j x hx => ?_⟩
      have hj : j = 0 := by
        have := (List.getElem?_eq_some_iff.1 hx).1
        simpa using this
      subst hj
      rw [hlen] at hi
      have := hc' i (by omega)
      rw [show off + i * 1 + 0 = off + i by omega, this, ← hx]
      have : i < zs.length := by omega
      simp [this]
    · exact Or.inl (List.eq_nil_of_length_eq_zero (by omega))

/-- A struct of a slice of numbers and three numbers. -/
theorem open_rests {H : Type} {enc : TypeId × Value → H} {P : Program} {w : World} {base : Nat} {spare : Nat → Bool} {held : Bool} {r : Reach} {b0 : Nat} {t0 t e : TypeId} {g0 g1 g2 g3 : Field} {v : Value} {d : DataW H} {p : List MemPlace}
    (hs : P.underlying t0 = some (.struct #[g0, g1, g2, g3])) (honeg : oneCellFields P #[g0, g1, g2, g3] = true) (hCg : P.cellsOf t0 = 4) (hg0 : g0.type = t) (k1 : P.underlying g1.type = some (.int .u8)) (k2 : P.underlying g2.type = some (.int .u8)) (k3 : P.underlying g3.type = some (.int .i64))
    (ht : P.underlying t = some (.slice e)) (he : P.underlying e = some (.int .u8)) (hC : P.cellsOf e = 1)
    (hv : Value.okWide P w r b0 t0 v) (h : DataW.Trod enc P w base spare held t0 v d p) : ∃ ao c l n1 n2 n3, v = .agg #[.slice ao (List.length l) c, .int .u8 n1, .int .u8 n2, .int .i64 n3] ∧ SlAt (fun x : Int => [Value.int .u8 x]) 1 w ao l ∧ l.length ≤ c ∧ (c : Int) ≤ 9223372036854775807 ∧ (∀ x ∈ l, (Lit.int .u8 x).wf = true) ∧ (Lit.int .u8 n1).wf = true ∧ (Lit.int .u8 n2).wf = true ∧ (Lit.int .i64 n3).wf = true := by
  subst hg0
  obtain ⟨v0, v1, v2, v3, y0, y1, y2, y3, n, rfl, rfl, -, q0, q1, q2, q3⟩ := open_agg4 hs honeg hCg hv h
  obtain ⟨s1, e1, -, w1⟩ := DataW.trod_int k1 q1
  obtain ⟨s2, e2, -, w2⟩ := DataW.trod_int k2 q2
  obtain ⟨s3, e3, -, w3⟩ := DataW.trod_int k3 q3
  simp at e1 e2 e3
  subst e1 e2 e3
  obtain ⟨a, l, c, e0⟩ := slice_form ht q0
  simp only [List.cons.injEq, and_true] at e0
  obtain ⟨L, hL⟩ := open_nums0 ht he hC ⟨a, l, c, e0⟩ (d := y0.1) (p := y0.2) ⟨n, by subst e0; exact q0⟩
  obtain ⟨ao, c0, hv0, h1, h2, h3, -⟩ := hL.form
  subst hv0
  exact ⟨ao, c0, L, s1, s2, s3, rfl, h1, h2, h3, hL.wf, w1, w2, w3⟩

theorem own : ownKnob Try.prog.godebug = none := by kernel_rfl
theorem laidOut : laidOutB Try.prog = true := by kernel_rfl

set_option maxRecDepth 100000 in
set_option maxHeartbeats 4000000 in
theorem lifted (os : Os) (started : os.Started) (H : Type) (enc : TypeId × Value → H) :
    ReturnsInHanded {} Try.checked os 7 .any (Rows.seekRestSpec.pre6 enc Try.prog Try.f7 Rows.seekRestRow.domain false) (Rows.seekRestSpec.post enc Try.prog Try.f7 false true false false) := by
  refine returnsInHanded_of_change (C := Try.checked) own started (by kernel_rfl) Try.func7
    (ChangeSpec.witness6 (enc := enc) (C := Try.checked) false ⟨#[], #[.agg #[.slice none 0 0, .int .u8 0, .int .u8 0, .int .i64 0]], []⟩ 8 (by kernel_rfl) (by kernel_rfl) (by kernel_rfl) (by kernel_rfl)) ?_
  intro W base args ds gs before hval0 hW hcnd _
  have hval : ∀ (j : Nat) t v, Try.f7.params[j]? = some t → args[j]? = some v → Value.okWide Try.prog W .any base t v := hval0
  have hW' := hW
  obtain ⟨p, q, hA0, hV, rfl, hfz, hnd⟩ := hW
  have hA : DataW.TrodAll enc Try.prog W 0 (fun _ => true) true Try.f7.params.toList args.toList ds p := hA0
  rw [Try.params7] at hA hval
  obtain ⟨v0, vs0, d0, ds0, p0, q0, hargs, rfl, rfl, h0, r0⟩ := trodAll_cons hA
  obtain ⟨rfl, rfl, rfl⟩ := trodAll_nil r0
  obtain rfl : args = #[v0] := by cases args; simp_all
  obtain ⟨rfl, rfl⟩ := trodVars_none hV
  have k0 := h0
  have lt0 : ∀ x ∈ p0, x.block < W.heap.size := by obtain ⟨m, hm⟩ := k0; exact DataW.trod_lt m _ _ _ hm
  obtain ⟨ao, c0, l0, n1, n2, n3, rfl, s0, q0, m0, z0, b1, b2, b3⟩ := open_rests Try.underlying76 (by kernel_rfl) (by kernel_rfl) rfl (by kernel_rfl) (by kernel_rfl) (by kernel_rfl) Try.underlying61 Try.underlying5 (by kernel_rfl) (hval 0 76 v0 rfl rfl) h0
  have hb1 := bounds_u8 b1
  obtain ⟨n1, rfl⟩ := Int.eq_ofNat_of_zero_le hb1.1
  have hb2 := bounds_u8 b2
  obtain ⟨n2, rfl⟩ := Int.eq_ofNat_of_zero_le hb2.1
  have hb3 := bounds_i64 b3
  clear hA0 hval0
  refine (seekRest_walk ao c0 l0 n1 n2 n3 W s0 q0 (fun x hx => by have := bounds_u8 (z0 x hx); omega) (by omega) (by omega) (by omega) hb3).mono fun e W' ⟨he, bel⟩ => ?_
  subst he
  exact ⟨_, rfl, _, _, _, [], _, [], hW', trodAll_mk1 (shut_bool Try.underlying4 _), (trodAll_cons_mk (Below.trod laidOut (by kernel_rfl) (of_decide_eq_true (by kernel_rfl)) k0 bel lt0) trodAll_mk0), rfl, bel.frame _, fun h => by cases h⟩

theorem over : Rows.seekRestRow.holds Try.pinned (OpenSpec.ofChange Rows.seekRestSpec) :=
  OpenClaim.holds_of_wide 7 Try.f7 rfl rfl rfl rfl rfl rfl rfl ⟨rfl, rfl, rfl, rfl, rfl⟩ rfl rfl rfl rfl rfl (by kernel_rfl) Try.func7 (by kernel_rfl)
    (of_decide_eq_true (by kernel_rfl)) (by unfold Func.isWrapper; first | (rw [if_pos (by decide +kernel)]; kernel_rfl) | (rw [if_neg (by decide +kernel)]; exact ⟨rfl, rfl⟩))
    (fun os started H enc _ => lifted os started H enc)

/-- The statement. -/
theorem proved : Rows.SeekRestSaid := over
#print axioms proved
end Go.Proofs.Ythcjcmalfnfjkaa.lawSeekRest
