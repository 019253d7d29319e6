/-
  A call's own map of texts to rows of updates: all that were put, by their keys.
-/
import Derived.Test.YtcjeonamebnpfaaFldP
import Derived.Test.YtcjeonamebnpfaaKeyS
import Derived.Test.YtcjeonamebnpfaaBuQ
import Derived.Maps.RangeWalk
namespace Go.Proofs.Ytcjeonamebnpfaa
open Go.RowKit
open Go.Maps (Keyed)

/-- A slice's value as a datum, whatever the world. -/
def sliceD : Value → Option (DataW Unit × List MemPlace)
  | .slice none n c => if n = 0 ∧ c = 0 then some (.nil, []) else none
  | .slice (some ⟨g, off, none⟩) n c => some (.agg [.lit (.int .i64 g), .lit (.int .i64 off), .lit (.int .i64 n), .lit (.int .i64 c)], [])
  | _ => none
theorem sliceD_inv {v : Value} {d : DataW Unit} {ps : List MemPlace} (h : sliceD v = some (d, ps)) : ps = [] ∧ ((v = .slice none 0 0 ∧ d = .nil) ∨ ∃ g off n c, v = .slice (some ⟨g, off, none⟩) n c ∧ d = .agg [.lit (.int .i64 g), .lit (.int .i64 off), .lit (.int .i64 n), .lit (.int .i64 c)]) := by
  unfold sliceD at h
  split at h
  · split at h
    · rename_i h0
      obtain ⟨rfl, rfl⟩ := h0
      simp only [Option.some.injEq, Prod.mk.injEq] at h
      exact ⟨h.2.symm, Or.inl ⟨rfl, h.1.symm⟩⟩
    · exact absurd h (by simp)
  · simp only [Option.some.injEq, Prod.mk.injEq] at h
    exact ⟨h.2.symm, Or.inr ⟨_, _, _, _, rfl, h.1.symm⟩⟩
  · exact absurd h (by simp)
theorem sliceD_inj {v v' : Value} {d : DataW Unit} {ps ps' : List MemPlace} (h : sliceD v = some (d, ps)) (h' : sliceD v' = some (d, ps')) : v = v' := by
  obtain ⟨-, ⟨rfl, rfl⟩ | ⟨g, off, n, c, rfl, rfl⟩⟩ := sliceD_inv h
  · obtain ⟨-, ⟨rfl, -⟩ | ⟨g, off, n, c, -, e⟩⟩ := sliceD_inv h'
    · rfl
    · exact absurd e (by simp)
  · obtain ⟨-, ⟨-, e⟩ | ⟨g', off', n', c', rfl, e⟩⟩ := sliceD_inv h'
    · exact absurd e (by simp)
    · simp only [DataW.agg.injEq, List.cons.injEq, DataW.lit.injEq, Lit.int.injEq, and_true, true_and] at e
      obtain ⟨e1, e2, e3, e4⟩ := e
      have h1 : g = g' := by omega
      have h2 : off = off' := by omega
      have h3 : n = n' := by omega
      have h4 : c = c' := by omega
      subst h1 h2 h3 h4
      rfl
theorem sliceD_own {w : World} {base : Nat} {E : TypeId} {k : Nat} {v : Value} {n : Nat} {xs : List Value} (h : w.ownsRow base E k v n xs) : ∃ d, sliceD v = some (d, []) := by
  rcases ownsRow_open h with ⟨rfl, -, -⟩ | ⟨g, cap, cur, rfl, -⟩
  · exact ⟨.nil, by simp [sliceD]⟩
  · exact ⟨_, rfl⟩

/-- All that were put, by their keys, in block b; the rows lie from 'base' on. -/
structure GrpAt (w : World) (base b : Nat) (us : List Upd) (V : List UInt8 → Value) (D : DataW Unit) : Prop where
  own : w.ownsMap Try.prog 9 sliceD b us.length D
  lt : b < base
  le : base ≤ w.heap.size
  has : ∀ x, Maps.has D (.string x) = decide (x ∈ us.map Upd.key)
  get : ∀ x, sliceD (V x) = some (D.atKey (.string x) .nil, [])
  row : ∀ x, w.ownsRow base 31 4 (V x) (grp us x).length (cellsU (grp us x))
  apart : ∀ x y, x ≠ y → ApartV (V x) (V y)
  size : Maps.size D = (withAll us).length

theorem GrpAt.start (w : World) : GrpAt (w.alloc (.map #[] 0)) (w.heap.size + 1) w.heap.size [] (fun _ => .slice none 0 0) (.map []) :=
  ⟨World.ownsMap_made _ _ _ _, Nat.lt_succ_self _, by simp, fun x => rfl, fun x => rfl, fun x => World.ownsRow_nil _ _ _ _, fun x y _ k e => by simp [Value.ownBlock] at e, rfl⟩

section
variable {w w' : World} {base b : Nat} {us : List Upd} {V : List UInt8 → Value} {D : DataW Unit}
theorem GrpAt.kept {row : Option Nat} (h : GrpAt w base b us V D) (hg : w.grownBy w' row) (hb : some b ≠ row) (hv : ∀ x, (V x).ownBlock = none ∨ (V x).ownBlock ≠ row) : GrpAt w' base b us V D :=
  ⟨h.own.kept hg hb, h.lt, Nat.le_trans h.le hg.size, h.has, h.get, fun x => (h.row x).kept hg (hv x), h.apart, h.size⟩
theorem GrpAt.on (h : GrpAt w base b us V D) (hb : Below w.heap.size w w') : GrpAt w' base b us V D :=
  h.kept (row := none) ⟨hb.os, hb.tape, hb.output, hb.size, fun i hi _ => hb.block i hi⟩ (by simp) (fun x => by cases (V x).ownBlock <;> simp)
theorem GrpAt.far (h : GrpAt w base b us V D) {row : Option Nat} (hr : ∀ k, row = some k → k < base) : ∀ x, (V x).ownBlock = none ∨ (V x).ownBlock ≠ row := fun x => by
  cases hx : (V x).ownBlock with
  | none => exact Or.inl rfl
  | some g =>
    refine Or.inr fun e => ?_
    have h1 := ((h.row x).lt g hx).1
    have h2 := hr g e.symm
    omega
theorem GrpAt.setCell (h : GrpAt w base b us V D) {p : Nat} (hp : p < base) (hb : b ≠ p) (u : Value) : GrpAt (w.setCell ⟨p, 0, none⟩ u) base b us V D :=
  ⟨h.own.setCell hb u, h.lt, by rw [World.size_setCell]; exact h.le, h.has, h.get, fun x => ownsRow_setCell_other (h.row x) (fun e => by have h1 := ((h.row x).lt _ e).1; have h2 : base ≤ p := h1; omega) u, h.apart, h.size⟩
theorem zero_rows (w : World) : (zeroValue 24).run Try.prog w = .ok (.slice none 0 0) w := by kernel_rfl
theorem GrpAt.look (h : GrpAt w base b us V D) (x : List UInt8) (hx : x.length ≤ 1000) : (Instr.lookup 62 (.map (some b)) (.string (S x)) false).run Try.prog w = .ok (V x) w := by
  obtain ⟨v, ps, hrun, hv⟩ := h.own.lookup (Maps.string_keyed Try.underlying9) Try.underlying62 (zero_rows w) (zd := .nil) (zp := []) rfl (str_key x hx)
  rw [hrun, sliceD_inj hv (h.get x)]
theorem hasKey_all {us : List Upd} (hus : ∀ u ∈ us, Tm u) (k : List UInt8) : hasKey Upd.key (withAll us) k = decide (k ∈ us.map Upd.key) := by
  have hr := (withAll_ok us (tm_ok hus)).1
  have h := getL_all us hus k
  cases hk : hasKey Upd.key (withAll us) k with
  | true =>
    obtain ⟨x, hx, e⟩ := hasKey_iff.1 hk
    have hg := (getL_iff hr k x).2 ⟨hx, e⟩
    rw [hg] at h
    symm
    rw [decide_eq_true_eq]
    cases hq : grp us k with
    | nil => rw [hq, joinAll_nil] at h; exact absurd h (by simp)
    | cons y t =>
      obtain ⟨h1, h2⟩ := grp_mem (us := us) (k := k) (x := y) (by rw [hq]; exact List.mem_cons_self ..)
      exact List.mem_map.2 ⟨y, h1, h2⟩
  | false =>
    rw [getL_none hk] at h
    symm
    rw [decide_eq_false_iff_not]
    intro hm
    obtain ⟨y, hy, e⟩ := List.mem_map.1 hm
    have hq : y ∈ grp us k := List.mem_filter.2 ⟨hy, by simpa using e⟩
    rcases List.eq_nil_or_concat (grp us k) with e2 | ⟨l', a, e2⟩
    · rw [e2] at hq; simp at hq
    · rw [e2, List.concat_eq_append, joinAll_snoc] at h; exact absurd h (by simp)
theorem withL_size {l : List Upd} (hr : Rising Upd.key l) (u : Upd) : (withL l u).length = if hasKey Upd.key l u.key = true then l.length else l.length + 1 := by
  cases h : hasKey Upd.key l u.key with
  | false => rw [withL_new h, insU_len]; rfl
  | true =>
    obtain ⟨i, hi, hk, e⟩ := withL_old hr h
    rw [e, List.length_set]; rfl
/-- 'm[k] = append(m[k], u)', the row grown already. -/
theorem GrpAt.put {w1 : World} (h : GrpAt w base b us V D) (hus : ∀ u ∈ us, Tm u) (u : Upd) (hu : Tm u) (hn : us.length ≤ 1000) {v' : Value} (hg : w.grownBy w1 (V u.key).ownBlock) (ho : w1.ownsRow base 31 4 v' (grp us u.key ++ [u]).length (cellsU (grp us u.key ++ [u])))
    (hl : v'.ownBlock = (V u.key).ownBlock ∨ ∃ g, v'.ownBlock = some g ∧ w.heap.size ≤ g) :
    ∃ w2 V' D', (Instr.mapUpdate 62 (.map (some b)) (.string (S u.key)) v').run Try.prog w1 = .ok () w2 ∧ GrpAt w2 base b (us ++ [u]) V' D' ∧ w1.grownBy w2 (some b) ∧ ∀ x, V' x = V x ∨ V' x = v' := by
  have K : Keyed Try.prog 9 := Maps.string_keyed Try.underlying9
  have hb : some b ≠ (V u.key).ownBlock := fun e => by
    have := ((h.row u.key).lt b e.symm).1
    have := h.lt
    omega
  have how := h.own.kept hg hb
  obtain ⟨d, hd⟩ := sliceD_own ho
  have hkl := str_key u.key (by have := hu.klen; omega)
  obtain ⟨w2, hrun, h2, hg2⟩ := how.update K Try.underlying62 (by unfold maxLen; omega) hkl hd
  have hle1 : base ≤ w1.heap.size := Nat.le_trans h.le hg.size
  have hfar : ∀ {v : Value} {n : Nat} {xs : List Value}, w1.ownsRow base 31 4 v n xs → w2.ownsRow base 31 4 v n xs := fun {v n xs} ho => by
    refine ho.kept hg2 ?_
    cases hx : v.ownBlock with
    | none => exact Or.inl rfl
    | some g =>
      refine Or.inr fun e => ?_
      have h1 := (ho.lt g hx).1
      have h2 := h.lt
      injection e with e
      omega
  refine ⟨w2, fun x => if x = u.key then v' else V x, D.put (.string u.key) d, hrun, ⟨by rw [List.length_append, List.length_singleton]; exact h2, h.lt, Nat.le_trans hle1 hg2.size, fun x => ?_, fun x => ?_, fun x => ?_, fun x y hxy => ?_, ?_⟩, hg2, fun x => ?_⟩
  · by_cases hx : x = u.key
    · subst hx
      rw [Maps.has_put_same how.isMap (by trivial)]
      simp
    · rw [Maps.has_put_other (by simpa using hx), h.has x]
      simp [hx]
  · by_cases hx : x = u.key
    · subst hx
      rw [if_pos rfl, Maps.atKey_put_same how.isMap (by trivial), hd]
    · rw [if_neg hx, Maps.atKey_put_other (by simpa using hx), h.get x]
  · by_cases hx : x = u.key
    · subst hx
      rw [if_pos rfl, grp_same]
      exact hfar ho
    · rw [if_neg hx, grp_other us u hx]
      exact hfar ((h.row x).kept hg (h.apart u.key x (fun e => hx e.symm)).keep)
  · have hnew : ∀ z, z ≠ u.key → ApartV v' (V z) := fun z hz k e e' => by
      rcases hl with hl | ⟨g, hl, hge⟩
      · exact h.apart u.key z (fun e => hz e.symm) k (hl.symm.trans e) e'
      · rw [hl] at e
        injection e with e
        have := ((h.row z).lt k e').2
        omega
    by_cases hx : x = u.key
    · subst hx
      simp only [if_true]
      rw [if_neg (fun e => hxy e.symm)]
      exact hnew y (fun e => hxy e.symm)
    · rw [if_neg hx]
      by_cases hy : y = u.key
      · subst hy
        simp only [if_true]
        exact (hnew x hx).symm
      · rw [if_neg hy]
        exact h.apart x y hxy
  · have hr := (withAll_ok us (tm_ok hus)).1
    rw [Maps.size_put (how.tidy K), withAll_snoc, withL_size hr, h.has, hasKey_all hus, h.size]
  · by_cases hx : x = u.key
    · exact Or.inr (if_pos hx)
    · exact Or.inl (if_neg hx)
/-- What a range over it hands out. -/
theorem str_key_inv {key : Value} {kl : Lit} (h : keyOf Try.prog 9 key = some kl) : ∃ x : List UInt8, key = .string (S x) ∧ kl = .string x := by
  have hk := Try.underlying9
  cases key <;> simp [keyOf, hk, mapKey] at h
  rename_i s
  obtain ⟨l, rfl⟩ := S_ex s
  refine ⟨l, rfl, ?_⟩
  rw [← h.2, S_data]
theorem slice_val {v : Value} {y : DataW Unit × List MemPlace} (h : sliceD v = some y) : ∃ c : Option Addr × Nat × Nat, v = .slice c.1 c.2.1 c.2.2 := by
  obtain ⟨d, ps⟩ := y
  obtain ⟨-, ⟨rfl, -⟩ | ⟨g, off, n, c, rfl, -⟩⟩ := sliceD_inv h
  · exact ⟨(none, 0, 0), rfl⟩
  · exact ⟨(_, _, _), rfl⟩
end

end Go.Proofs.Ytcjeonamebnpfaa
