/-
  What the statements' proofs share: how arguments are opened.
  How slices of ints and of bytes are opened, as arguments.
  How arguments are opened that are arrays of two texts.
  How an argument is opened that is a slice of updates.
  How arguments are opened that are slices of entries, or arrays of two short numbers.
-/
import Derived.Test.YtafciefjlkdecaaGreatZa
import Derived.ProofKit
import Derived.OpenShut
import Derived.ShutString
import Derived.ChangeOld
import Derived.SizedLaws
import Derived.Lib.SmallJoins
import Derived.Deep.Slices
import Derived.Test.YtafciefjlkdecaaGreatZf
namespace Go.Proofs.YtafciefjlkdecaaGreat
open Go.ChangeShapes Go.WideShapes Go.ChangeAt Go.RowKit

section
variable {H : Type} {enc : TypeId × Value → H} {P : Program} {w : World} {base : Nat} {spare : Nat → Bool} {held : Bool}
theorem open_arr3 {r : Reach} {b0 : Nat} {t e : TypeId} {v : Value} {d : DataW H} {p : List MemPlace} (ht : P.underlying t = some (.array 3 e)) (he : P.underlying e = some (.int .i64)) (hC : P.cellsOf t = 3) (hE : P.cellsOf e = 1)
    (hv : Value.okWide P w r b0 t v) (h : DataW.Trod enc P w base spare held t v d p) : ∃ a b c, v = .agg #[.int .i64 a, .int .i64 b, .int .i64 c] := by
  unfold Value.okWide at hv
  rw [ht] at hv
  obtain ⟨cs, rfl, hsz, -⟩ := hv
  obtain ⟨c0, c1, c2, rfl⟩ := Joins.array3 (hsz.trans hC)
  obtain ⟨fuel, hf⟩ := h
  obtain ⟨xs, m, -, -, -, hl, hx⟩ := DataW.trod_array ht hf
  simp only [Value.cells, hE] at hx
  match xs, hl with
  | [x0, x1, x2], _ =>
    have e0 := hx 0 (by omega)
    have e1 := hx 1 (by omega)
    have e2 := hx 2 (by omega)
    simp at e0 e1 e2
    obtain ⟨a, ha, -, -⟩ := DataW.trod_int he e0
    obtain ⟨b, hb, -, -⟩ := DataW.trod_int he e1
    obtain ⟨c, hc, -, -⟩ := DataW.trod_int he e2
    simp at ha hb hc
    subst ha hb hc
    exact ⟨a, b, c, rfl⟩
end

end Go.Proofs.YtafciefjlkdecaaGreat

namespace Go.Proofs.YtafciefjlkdecaaGreat
open Go.ChangeShapes Go.WideShapes Go.ChangeAt Go.RowKit

/-- A slice of numbers of one kind, as an argument. -/
structure ArgNums (k : IntKind) (w : World) (v : Value) (l : List Int) : Prop where
  form : ∃ ao c, v = .slice ao l.length c ∧ SlAt (fun x : Int => [Value.int k x]) 1 w ao l ∧ l.length ≤ c ∧ (c : Int) ≤ 9223372036854775807 ∧ (ao = none → c = 0)
  wf : ∀ x ∈ l, (Lit.int k x).wf = true

theorem open_nums {H : Type} {enc : TypeId × Value → H} {P : Program} {w : World} {base : Nat} {spare : Nat → Bool} {held : Bool} {r : Reach} {b0 : Nat} {k : IntKind} {t e : TypeId} {v : Value} {d : DataW H} {p : List MemPlace}
    (ht : P.underlying t = some (.slice e)) (he : P.underlying e = some (.int k)) (hc : P.cellsOf e = 1) (hv : Value.okWide P w r b0 t v) (h : DataW.Trod enc P w base spare held t v d p) : ∃ l, ArgNums k w v l := by
  obtain ⟨a, len, cap, rfl⟩ := okWide_slice ht hv
  obtain ⟨fuel, hf⟩ := h
  rcases open_ints ht he hc hf with ⟨hcs, -⟩ | ⟨a', len', cap', zs, hcs, -, hl, hm, hz, -, hcell, hwz⟩
  · simp only [Value.cells, List.cons.injEq, and_true, Value.slice.injEq] at hcs
    obtain ⟨rfl, rfl, rfl⟩ := hcs
    exact ⟨[], ⟨none, 0, rfl, Or.inl rfl, Nat.le_refl _, by omega, fun _ => rfl⟩, fun x hx => by simp at hx⟩
  · simp only [Value.cells, List.cons.injEq, and_true, Value.slice.injEq] at hcs
    obtain ⟨rfl, rfl, rfl⟩ := hcs
    have hlz : len ≤ zs.length := by rw [hz]; split <;> omega
    have hlen : (zs.take len).length = len := by rw [List.length_take]; omega
    refine ⟨zs.take len, ⟨some a', cap, by rw [hlen], ?_, by rw [hlen]; exact hl, by unfold maxLen at hm; omega, fun e => by simp at e⟩, fun x hx => hwz x (List.mem_of_mem_take hx)⟩
    by_cases h0 : 0 < len
    · obtain ⟨b, off, rfl, hc'⟩ := ints_at hcell (by omega)
      refine Or.inr ⟨b, off, rfl, World.block_lt_of_cell? w _ (hc' 0 (by omega)), fun i hi j x hx => ?_⟩
      have hj : j = 0 := by
        have := (List.getElem?_eq_some_iff.1 hx).1
        simpa using this
      subst hj
      rw [hlen] at hi
      have := hc' i (by omega)
      rw [show off + i * 1 + 0 = off + i by omega, this, ← hx]
      have : i < zs.length := by omega
      simp [this]
    · exact Or.inl (List.eq_nil_of_length_eq_zero (by omega))

end Go.Proofs.YtafciefjlkdecaaGreat

namespace Go.Proofs.YtafciefjlkdecaaGreat
open Go.ChangeShapes Go.WideShapes Go.ChangeAt Go.RowKit

theorem open_arr2s {H : Type} {enc : TypeId × Value → H} {P : Program} {w : World} {base : Nat} {spare : Nat → Bool} {held : Bool} {r : Reach} {b0 : Nat} {t e : TypeId} {v : Value} {d : DataW H} {p : List MemPlace} (ht : P.underlying t = some (.array 2 e)) (he : P.underlying e = some .string) (hC : P.cellsOf t = 2) (hE : P.cellsOf e = 1)
    (hv : Value.okWide P w r b0 t v) (h : DataW.Trod enc P w base spare held t v d p) : ∃ a b : List UInt8, v = .agg #[.string (S a), .string (S b)] := by
  unfold Value.okWide at hv
  rw [ht] at hv
  obtain ⟨cs, rfl, hsz, -⟩ := hv
  obtain ⟨c0, c1, rfl⟩ : ∃ c0 c1, cs = #[c0, c1] := by
    have h2 : cs.size = 2 := hsz.trans hC
    obtain ⟨l⟩ := cs
    match l, h2 with
    | [a, b], _ => exact ⟨a, b, rfl⟩
  obtain ⟨fuel, hf⟩ := h
  obtain ⟨xs, m, -, -, -, hl, hx⟩ := DataW.trod_array ht hf
  simp only [Value.cells, hE] at hx
  match xs, hl with
  | [x0, x1], _ =>
    have e0 := hx 0 (by omega)
    have e1 := hx 1 (by omega)
    simp at e0 e1
    obtain ⟨a, ha, -, -⟩ := DataW.trod_string he e0
    obtain ⟨b, hb, -, -⟩ := DataW.trod_string he e1
    simp at ha hb
    subst ha hb
    obtain ⟨l1, rfl⟩ := S_ex a
    obtain ⟨l2, rfl⟩ := S_ex b
    exact ⟨l1, l2, rfl⟩

end Go.Proofs.YtafciefjlkdecaaGreat

namespace Go.Proofs.YtafciefjlkdecaaGreat
open Go.ChangeShapes Go.WideShapes Go.ChangeAt Go.RowKit Go.Deep Go.Joins

theorem weights_mem_all {H : Type} {P : Program} {e : TypeId} : ∀ {ds : List (DataW H)} {d : DataW H}, d ∈ ds → ∀ n ∈ d.weights P e, n ∈ DataW.weightsAll P e ds
  | [], d, hd, _, _ => by simp at hd
  | d0 :: ds, d, hd, n, hn => by
    simp only [DataW.weightsAll, List.mem_append]
    rcases List.mem_cons.1 hd with rfl | hd
    · exact Or.inl hn
    · exact Or.inr (weights_mem_all hd n hn)

instance : Inhabited Upd := ⟨⟨0, [], [], 0⟩⟩
/-- An argument that is a slice of updates. -/
structure ArgUpds (w : World) (v : Value) (l : List Upd) : Prop where
  form : SlU w v l
  wf : ∀ u ∈ l, u.Wf
  size : ∀ u ∈ l, u.key.length ≤ 140737488355328 ∧ u.val.length ≤ 140737488355328

set_option maxHeartbeats 1000000 in
theorem open_upds0 {H : Type} {enc : TypeId × Value → H} {P : Program} {w : World} {base : Nat} {spare : Nat → Bool} {held : Bool} {t e : TypeId} {f0 f1 f2 f3 : Field} {v : Value} {d : DataW H} {p : List MemPlace}
    (ht : P.underlying t = some (.slice e)) (he : P.underlying e = some (.struct #[f0, f1, f2, f3])) (hone : oneCellFields P #[f0, f1, f2, f3] = true) (hC : P.cellsOf e = 4)
    (h0 : P.underlying f0.type = some (.int .u8)) (h1 : P.underlying f1.type = some .string) (h2 : P.underlying f2.type = some .string) (h3 : P.underlying f3.type = some (.int .u64)) (hv : ∃ a len cap, v = .slice a len cap)
    (h : DataW.Trod enc P w base spare held t v d p) (hsz : ∀ n ∈ d.weights P t, n ≤ reachBytes) : ∃ l, ArgUpds w v l := by
  obtain ⟨a, len, cap, rfl⟩ := hv
  obtain ⟨fuel, hf⟩ := h
  rcases open_slice ht hf with ⟨hcs, -⟩ | ⟨a', len', cap', m, n, D, Pl, hcs, -, hl, hm, hmm, hx, hel⟩
  · simp only [Value.cells, List.cons.injEq, and_true, Value.slice.injEq] at hcs
    obtain ⟨rfl, rfl, rfl⟩ := hcs
    exact ⟨[], SlU.nil w, fun x hx => by simp at hx, fun x hx => by simp at hx⟩
  · simp only [Value.cells, List.cons.injEq, and_true, Value.slice.injEq] at hcs
    obtain ⟨rfl, rfl, rfl⟩ := hcs
    simp only [Prod.mk.injEq] at hx
    obtain ⟨rfl, rfl⟩ := hx
    have hlm : len ≤ m := by rw [hmm]; split <;> omega
    obtain ⟨o0, k0⟩ := hone_of hone 0 f0 rfl
    obtain ⟨o1, k1⟩ := hone_of hone 1 f1 rfl
    obtain ⟨o2, k2⟩ := hone_of hone 2 f2 rfl
    obtain ⟨o3, k3⟩ := hone_of hone 3 f3 rfl
    have key : ∀ i, i < len → ∃ u : Upd, (∀ j x, (Upd.cells u)[j]? = some x → w.cell? ((a'.add (i * 4)).add j) = some x) ∧ u.Wf ∧ u.key.length ≤ 140737488355328 ∧ u.val.length ≤ 140737488355328 := by
      intro i hi
      obtain ⟨cs', hcs, htr⟩ := hel i (by omega)
      rw [hC] at hcs
      obtain ⟨-, hlen, hcell⟩ := World.cells?_some hcs
      obtain ⟨y0, y1, y2, y3, n', hy, -, t0, t1, t2, t3⟩ := trod_struct4 he htr
      match cs', hlen with
      | [c0, c1, c2, c3], _ =>
        simp only [o0, o1, o2, o3, k0, k1, k2, k3] at t0 t1 t2 t3
        obtain ⟨x0, e0, g0, b0⟩ := DataW.trod_int h0 t0
        obtain ⟨s1, e1, g1, b1⟩ := DataW.trod_string h1 t1
        obtain ⟨s2, e2, g2, b2⟩ := DataW.trod_string h2 t2
        obtain ⟨x3, e3, g3, b3⟩ := DataW.trod_int h3 t3
        simp at e0 e1 e2 e3
        subst e0 e1 e2 e3
        have q0 := bounds_u8 b0
        have q3 := bounds_u64 b3
        obtain ⟨l1, rfl⟩ := S_ex s1
        obtain ⟨l2, rfl⟩ := S_ex s2
        have hD : D i = .agg [.lit (.int .u8 x0), .lit (.string (S l1).data.toList), .lit (.string (S l2).data.toList), .lit (.int .u64 x3)] := by
          have := congrArg Prod.fst hy
          rw [g0, g1, g2, g3] at this
          exact this
        have hw : ∀ n ∈ (D i).weights P e, n ≤ reachBytes := fun n hn => hsz n (by
          simp only [DataW.weights, ht, List.mem_cons, List.mem_append]
          exact Or.inr (Or.inl (weights_mem_all (List.mem_map.2 ⟨i, List.mem_range.2 hi, rfl⟩) n hn)))
        rw [hD] at hw
        simp only [DataW.weights, he, DataW.weightsEach, List.mem_append, List.map_cons, List.map_nil, List.nil_append, List.append_nil, S_data] at hw
        have w1 := hw l1.length (by simp)
        have w2 := hw l2.length (by simp)
        have hr := reachBytes_lt
        refine ⟨⟨x0.toNat, l1, l2, x3.toNat⟩, fun j x hj => ?_, ⟨by show x0.toNat < 256; omega, by show x3.toNat < 18446744073709551616; omega⟩, by show l1.length ≤ _; omega, by show l2.length ≤ _; omega⟩
        have ex0 : ((x0.toNat : Nat) : Int) = x0 := by omega
        have ex3 : ((x3.toNat : Nat) : Int) = x3 := by omega
        have hj4 : j < 4 := by have := (List.getElem?_eq_some_iff.1 hj).1; simpa [Upd.cells] using this
        rw [hcell j hj4, ← hj]
        simp only [Upd.cells, ex0, ex3]
    obtain ⟨U, hU⟩ := choose_lt key
    have hmem : ∀ u ∈ (List.range len).map U, ∃ i, i < len ∧ u = U i := fun u hu => by
      obtain ⟨i, hi, rfl⟩ := List.mem_map.1 hu
      exact ⟨i, List.mem_range.1 hi, rfl⟩
    have hlen : ((List.range len).map U).length = len := by simp
    refine ⟨(List.range len).map U, ⟨some a', cap, by rw [hlen], ?_, by rw [hlen]; exact hl, by unfold maxLen at hm; omega, fun e => by simp at e⟩, fun u hu => ?_, fun u hu => ?_⟩
    · by_cases hp : 0 < len
      · have hc0 := (hU 0 hp).1 0 _ rfl
        obtain ⟨b, off, spot⟩ := a'
        have hspot : spot = none := by simpa [Addr.add] using World.cell?_spot hc0
        subst hspot
        refine Or.inr ⟨b, off, rfl, World.block_lt_of_cell? w _ hc0, fun i hi j x hx => ?_⟩
        have hi' : i < len := by rwa [hlen] at hi
        have := (hU i hi').1 j x (by simpa using hx)
        rw [Go.WideShapes.add_plain, Go.WideShapes.add_plain] at this
        exact this
      · exact Or.inl (List.eq_nil_of_length_eq_zero (by omega))
    · obtain ⟨i, hi, rfl⟩ := hmem u hu
      exact (hU i hi).2.1
    · obtain ⟨i, hi, rfl⟩ := hmem u hu
      exact (hU i hi).2.2

theorem open_upds {H : Type} {enc : TypeId × Value → H} {P : Program} {w : World} {base : Nat} {spare : Nat → Bool} {held : Bool} {r : Reach} {b0 : Nat} {t e : TypeId} {f0 f1 f2 f3 : Field} {v : Value} {d : DataW H} {p : List MemPlace}
    (ht : P.underlying t = some (.slice e)) (he : P.underlying e = some (.struct #[f0, f1, f2, f3])) (hone : oneCellFields P #[f0, f1, f2, f3] = true) (hC : P.cellsOf e = 4)
    (h0 : P.underlying f0.type = some (.int .u8)) (h1 : P.underlying f1.type = some .string) (h2 : P.underlying f2.type = some .string) (h3 : P.underlying f3.type = some (.int .u64))
    (hv : Value.okWide P w r b0 t v) (h : DataW.Trod enc P w base spare held t v d p) (hsz : ∀ n ∈ d.weights P t, n ≤ reachBytes) : ∃ l, ArgUpds w v l :=
  open_upds0 ht he hone hC h0 h1 h2 h3 (okWide_slice ht hv) h hsz
/-- A struct of a slice of updates and three texts. -/
theorem open_fold {H : Type} {enc : TypeId × Value → H} {P : Program} {w : World} {base : Nat} {spare : Nat → Bool} {held : Bool} {r : Reach} {b0 : Nat} {t0 t e : TypeId} {g0 g1 g2 g3 f0 f1 f2 f3 : Field} {v : Value} {d : DataW H} {p : List MemPlace}
    (hs : P.underlying t0 = some (.struct #[g0, g1, g2, g3])) (honeg : oneCellFields P #[g0, g1, g2, g3] = true) (hCg : P.cellsOf t0 = 4) (hg0 : g0.type = t) (k1 : P.underlying g1.type = some .string) (k2 : P.underlying g2.type = some .string) (k3 : P.underlying g3.type = some .string)
    (ht : P.underlying t = some (.slice e)) (he : P.underlying e = some (.struct #[f0, f1, f2, f3])) (hone : oneCellFields P #[f0, f1, f2, f3] = true) (hC : P.cellsOf e = 4)
    (h0 : P.underlying f0.type = some (.int .u8)) (h1 : P.underlying f1.type = some .string) (h2 : P.underlying f2.type = some .string) (h3 : P.underlying f3.type = some (.int .u64))
    (hv : Value.okWide P w r b0 t0 v) (h : DataW.Trod enc P w base spare held t0 v d p) (hsz : ∀ n ∈ d.weights P t0, n ≤ reachBytes) : ∃ v0 l a b c, v = .agg #[v0, .string (S a), .string (S b), .string (S c)] ∧ ArgUpds w v0 l := by
  subst hg0
  obtain ⟨v0, v1, v2, v3, y0, y1, y2, y3, n, rfl, rfl, -, q0, q1, q2, q3⟩ := open_agg4 hs honeg hCg hv h
  obtain ⟨s1, e1, -, -⟩ := DataW.trod_string k1 q1
  obtain ⟨s2, e2, -, -⟩ := DataW.trod_string k2 q2
  obtain ⟨s3, e3, -, -⟩ := DataW.trod_string k3 q3
  simp at e1 e2 e3
  subst e1 e2 e3
  obtain ⟨l1, rfl⟩ := S_ex s1
  obtain ⟨l2, rfl⟩ := S_ex s2
  obtain ⟨l3, rfl⟩ := S_ex s3
  obtain ⟨a, l, c, e0⟩ := slice_form ht q0
  simp only [List.cons.injEq, and_true] at e0
  obtain ⟨L, hL⟩ := open_upds0 ht he hone hC h0 h1 h2 h3 ⟨a, l, c, e0⟩ (d := y0.1) (p := y0.2) ⟨n, by subst e0; exact q0⟩ (fun m hm => hsz m (by
    simp only [DataW.weights, hs, DataW.weightsEach, List.mem_append, List.map_cons]
    exact Or.inl hm))
  exact ⟨v0, L, l1, l2, l3, rfl, hL⟩

end Go.Proofs.YtafciefjlkdecaaGreat

namespace Go.Proofs.YtafciefjlkdecaaGreat
open Go.ChangeShapes Go.WideShapes Go.ChangeAt Go.RowKit Go.Deep Go.Joins

instance : Inhabited Ent := ⟨⟨[], []⟩⟩
/-- An argument that is a slice of entries. -/
structure ArgEnts (w : World) (v : Value) (l : List Ent) : Prop where
  form : SlE w v l
  size : ∀ u ∈ l, u.key.length ≤ 140737488355328 ∧ u.val.length ≤ 140737488355328

set_option maxHeartbeats 1000000 in
theorem open_ents {H : Type} {enc : TypeId × Value → H} {P : Program} {w : World} {base : Nat} {spare : Nat → Bool} {held : Bool} {r : Reach} {b0 : Nat} {t e : TypeId} {f0 f1 : Field} {v : Value} {d : DataW H} {p : List MemPlace}
    (ht : P.underlying t = some (.slice e)) (he : P.underlying e = some (.struct #[f0, f1])) (hone : oneCellFields P #[f0, f1] = true) (hC : P.cellsOf e = 2)
    (h0 : P.underlying f0.type = some .string) (h1 : P.underlying f1.type = some .string)
    (hv : Value.okWide P w r b0 t v) (h : DataW.Trod enc P w base spare held t v d p) (hsz : ∀ n ∈ d.weights P t, n ≤ reachBytes) : ∃ l, ArgEnts w v l := by
  obtain ⟨a, len, cap, rfl⟩ := okWide_slice ht hv
  obtain ⟨fuel, hf⟩ := h
  rcases open_slice ht hf with ⟨hcs, -⟩ | ⟨a', len', cap', m, n, D, Pl, hcs, -, hl, hm, hmm, hx, hel⟩
  · simp only [Value.cells, List.cons.injEq, and_true, Value.slice.injEq] at hcs
    obtain ⟨rfl, rfl, rfl⟩ := hcs
    exact ⟨[], SlE.nil w, fun x hx => by simp at hx⟩
  · simp only [Value.cells, List.cons.injEq, and_true, Value.slice.injEq] at hcs
    obtain ⟨rfl, rfl, rfl⟩ := hcs
    simp only [Prod.mk.injEq] at hx
    obtain ⟨rfl, rfl⟩ := hx
    have hlm : len ≤ m := by rw [hmm]; split <;> omega
    obtain ⟨o0, k0⟩ := hone_of hone 0 f0 rfl
    obtain ⟨o1, k1⟩ := hone_of hone 1 f1 rfl
    have key : ∀ i, i < len → ∃ u : Ent, (∀ j x, (Ent.cells u)[j]? = some x → w.cell? ((a'.add (i * 2)).add j) = some x) ∧ u.key.length ≤ 140737488355328 ∧ u.val.length ≤ 140737488355328 := by
      intro i hi
      obtain ⟨cs', hcs, htr⟩ := hel i (by omega)
      rw [hC] at hcs
      obtain ⟨-, hlen, hcell⟩ := World.cells?_some hcs
      obtain ⟨y0, y1, n', hy, -, t0, t1⟩ := trod_struct2 he htr
      match cs', hlen with
      | [c0, c1], _ =>
        simp only [o0, o1, k0, k1] at t0 t1
        obtain ⟨s1, e1, g1, b1⟩ := DataW.trod_string h0 t0
        obtain ⟨s2, e2, g2, b2⟩ := DataW.trod_string h1 t1
        simp at e1 e2
        subst e1 e2
        obtain ⟨l1, rfl⟩ := S_ex s1
        obtain ⟨l2, rfl⟩ := S_ex s2
        have hD : D i = .agg [.lit (.string (S l1).data.toList), .lit (.string (S l2).data.toList)] := by
          have := congrArg Prod.fst hy
          rw [g1, g2] at this
          exact this
        have hw : ∀ n ∈ (D i).weights P e, n ≤ reachBytes := fun n hn => hsz n (by
          simp only [DataW.weights, ht, List.mem_cons, List.mem_append]
          exact Or.inr (Or.inl (weights_mem_all (List.mem_map.2 ⟨i, List.mem_range.2 hi, rfl⟩) n hn)))
        rw [hD] at hw
        simp only [DataW.weights, he, DataW.weightsEach, List.mem_append, List.map_cons, List.map_nil, List.append_nil, S_data] at hw
        have w1 := hw l1.length (by simp)
        have w2 := hw l2.length (by simp)
        have hr := reachBytes_lt
        refine ⟨⟨l1, l2⟩, fun j x hj => ?_, by show l1.length ≤ _; omega, by show l2.length ≤ _; omega⟩
        have hj4 : j < 2 := by have := (List.getElem?_eq_some_iff.1 hj).1; simpa [Ent.cells] using this
        rw [hcell j hj4, ← hj]
        simp only [Ent.cells]
    obtain ⟨U, hU⟩ := choose_lt key
    have hmem : ∀ u ∈ (List.range len).map U, ∃ i, i < len ∧ u = U i := fun u hu => by
      obtain ⟨i, hi, rfl⟩ := List.mem_map.1 hu
      exact ⟨i, List.mem_range.1 hi, rfl⟩
    have hlen : ((List.range len).map U).length = len := by simp
    refine ⟨(List.range len).map U, ⟨some a', cap, by rw [hlen], ?_, by rw [hlen]; exact hl, by unfold maxLen at hm; omega, fun e => by simp at e⟩, fun u hu => ?_⟩
    · by_cases hp : 0 < len
      · have hc0 := (hU 0 hp).1 0 _ rfl
        obtain ⟨b, off, spot⟩ := a'
        have hspot : spot = none := by simpa [Addr.add] using World.cell?_spot hc0
        subst hspot
        refine Or.inr ⟨b, off, rfl, World.block_lt_of_cell? w _ hc0, fun i hi j x hx => ?_⟩
        have hi' : i < len := by rwa [hlen] at hi
        have := (hU i hi').1 j x (by simpa using hx)
        rw [Go.WideShapes.add_plain, Go.WideShapes.add_plain] at this
        exact this
      · exact Or.inl (List.eq_nil_of_length_eq_zero (by omega))
    · obtain ⟨i, hi, rfl⟩ := hmem u hu
      exact (hU i hi).2

theorem open_arr2u {H : Type} {enc : TypeId × Value → H} {P : Program} {w : World} {base : Nat} {spare : Nat → Bool} {held : Bool} {r : Reach} {b0 : Nat} {t e : TypeId} {v : Value} {d : DataW H} {p : List MemPlace} (ht : P.underlying t = some (.array 2 e)) (he : P.underlying e = some (.int .u16)) (hC : P.cellsOf t = 2) (hE : P.cellsOf e = 1)
    (hv : Value.okWide P w r b0 t v) (h : DataW.Trod enc P w base spare held t v d p) : ∃ a b : Nat, v = .agg #[.int .u16 a, .int .u16 b] ∧ a < 65536 ∧ b < 65536 := by
  unfold Value.okWide at hv
  rw [ht] at hv
  obtain ⟨cs, rfl, hsz, -⟩ := hv
  obtain ⟨c0, c1, rfl⟩ : ∃ c0 c1, cs = #[c0, c1] := by
    have h2 : cs.size = 2 := hsz.trans hC
    obtain ⟨l⟩ := cs
    match l, h2 with
    | [a, b], _ => exact ⟨a, b, rfl⟩
  obtain ⟨fuel, hf⟩ := h
  obtain ⟨xs, m, -, -, -, hl, hx⟩ := DataW.trod_array ht hf
  simp only [Value.cells, hE] at hx
  match xs, hl with
  | [x0, x1], _ =>
    have e0 := hx 0 (by omega)
    have e1 := hx 1 (by omega)
    simp at e0 e1
    obtain ⟨a, ha, -, ba⟩ := DataW.trod_int he e0
    obtain ⟨b, hb, -, bb⟩ := DataW.trod_int he e1
    simp at ha hb
    subst ha hb
    have qa := bounds_u16 ba
    have qb := bounds_u16 bb
    exact ⟨a.toNat, b.toNat, by rw [Int.toNat_of_nonneg qa.1, Int.toNat_of_nonneg qb.1], by omega, by omega⟩

end Go.Proofs.YtafciefjlkdecaaGreat
