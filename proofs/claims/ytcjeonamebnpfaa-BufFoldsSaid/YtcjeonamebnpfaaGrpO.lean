/-
  A buffer in its box, beside the map of all that were put: what a round of BufFolds holds.
-/
import Derived.Test.YtcjeonamebnpfaaGrpM
import Derived.Test.YtcjeonamebnpfaaTwoA
namespace Go.Proofs.Ytcjeonamebnpfaa
open Go.RowKit
open Go.Maps (Keyed)

/-- A buffer of the list A in box p; the map of all that were put in block b; no row is two's. -/
structure BufG (W0 W : World) (B base p b : Nat) (us A : List Upd) (V : List UInt8 → Value) (D : DataW Unit) (a : Option Addr) (c : Nat) : Prop where
  map : GrpAt W base b us V D
  cell : W.cell? ⟨p, 0, none⟩ = some (.slice a A.length c)
  free : W.frozen? ⟨p, 0, none⟩ = false
  row : W.ownsRow base 31 4 (.slice a A.length c) A.length (cellsU A)
  apart : ∀ x, ApartV (V x) (.slice a A.length c)
  lt : p < base
  ne : b ≠ p
  below : Below B W0 W
  leP : B ≤ p
  leB : B ≤ b
section
variable {W0 W w' : World} {B base p b : Nat} {us A : List Upd} {V : List UInt8 → Value} {D : DataW Unit} {a : Option Addr} {c : Nat}
theorem BufG.box (h : BufG W0 W B base p b us A V D a c) : BoxU W (.agg #[.slice a A.length c]) A := BoxU.of_own h.row
theorem BufG.leW (h : BufG W0 W B base p b us A V D a c) : base ≤ W.heap.size := h.map.le
theorem BufG.leBW (h : BufG W0 W B base p b us A V D a c) : B ≤ W.heap.size := by have := h.map.le; have := h.lt; have := h.leP; omega
theorem BufG.on (h : BufG W0 W B base p b us A V D a c) (hb : Below W.heap.size W w') : BufG W0 w' B base p b us A V D a c := by
  have h1 := h.leW
  have h2 := h.lt
  have hp : p < W.heap.size := by omega
  exact ⟨h.map.on hb, ((bcell hb).1 p 0 hp).trans h.cell, ((bcell hb).2 p 0 hp).trans h.free, own_below h.row hb, h.apart, h.lt, h.ne, h.below.trans (hb.mono h.leBW), h.leP, h.leB⟩
theorem BufG.fresh (h : BufG W0 W B base p b us A V D a c) {v : Value} {n : Nat} {xs : List Value} (hv : w'.ownsRow W.heap.size 31 4 v n xs) : ∀ x, ApartV (V x) v := fun x k e e' => by
  have h1 := ((h.map.row x).lt k e).2
  have h2 := (hv.lt k e').1
  omega
theorem BufG.store (h : BufG W0 W B base p b us A V D a c) {a' : Option Addr} {c' : Nat} {A' : List Upd} (hr : W.ownsRow base 31 4 (.slice a' A'.length c') A'.length (cellsU A')) (hap : ∀ x, ApartV (V x) (.slice a' A'.length c')) :
    BufG W0 (W.setCell ⟨p, 0, none⟩ (.slice a' A'.length c')) B base p b us A' V D a' c' :=
  ⟨h.map.setCell h.lt h.ne _, World.cell?_setCell_same _ _ _ h.cell, by rw [World.frozen?_setCell]; exact h.free, ownsRow_setCell_other hr (fun e => by have h1 := (hr.lt _ e).1; have h2 := h.lt; have h3 : base ≤ p := h1; omega) _, hap, h.lt, h.ne, h.below.setCell (p := ⟨p, 0, none⟩) h.leP _, h.leP, h.leB⟩
/-- The row of a key has grown; the map is told. -/
theorem BufG.put (h : BufG W0 W B base p b us A V D a c) {w1 : World} (hus : ∀ u ∈ us, Tm u) (u : Upd) (hu : Tm u) (hn : us.length ≤ 1000) {v' : Value} (ho : w1.ownsRow base 31 4 v' ((grp us u.key).length + 1) (cellsU (grp us u.key) ++ [.int .u8 u.kind, .string (S u.key), .string (S u.val), .int .u64 u.delta])) (hg : W.grownBy w1 (V u.key).ownBlock)
    (hl : v'.ownBlock = (V u.key).ownBlock ∨ v'.ownBlock = some W.heap.size) :
    ∃ w2 V' D', (Instr.mapUpdate 62 (.map (some b)) (.string (S u.key)) v').run Try.prog w1 = .ok () w2 ∧ BufG W0 w2 B base p b (us ++ [u]) A V' D' a c ∧ w1.grownBy w2 (some b) := by
  rw [← cellsU_snoc] at ho
  obtain ⟨w2, V', D', hrun, hG, hg2, hwho⟩ := h.map.put hus u hu hn hg (by rw [List.length_append, List.length_singleton]; exact ho) (hl.imp id fun e => ⟨_, e, Nat.le_refl _⟩)
  have h1 := h.lt
  have hbl := h.map.lt
  have hp1 : some p ≠ (V u.key).ownBlock := fun e => by
    have := ((h.map.row u.key).lt p e.symm).1
    omega
  have hp2 : some p ≠ some b := fun e => by injection e with e; exact h.ne e.symm
  have hpl : p < W.heap.size := by have := h.leW; omega
  have hr1 := h.row.kept hg (h.apart u.key).keep
  have hr2 : w2.ownsRow base 31 4 (.slice a A.length c) A.length (cellsU A) := by
    refine hr1.kept hg2 ?_
    cases hx : (Value.slice a A.length c).ownBlock with
    | none => exact Or.inl rfl
    | some g =>
      refine Or.inr fun e => ?_
      have h2 := (hr1.lt g hx).1
      injection e with e
      omega
  have hB := below_grown (below_grown h.below hg (fun k e => by have := ((h.map.row u.key).lt k e).1; have := h.leB; omega) h.leBW) hg2 (fun k e => by injection e with e; have := h.leB; omega) (Nat.le_trans h.leBW hg.size)
  refine ⟨w2, V', D', hrun, ⟨hG, ?_, ?_, hr2, fun x => ?_, h.lt, h.ne, hB, h.leP, h.leB⟩, hg2⟩
  · exact hg2.cell (hg.cell h.cell hp1) hp2
  · exact (World.frozen?_of_block (hg2.block p (Nat.lt_of_lt_of_le hpl hg.size) hp2)).trans ((World.frozen?_of_block (hg.block p hpl hp1)).trans h.free)
  · rcases hwho x with e | e
    · rw [e]; exact h.apart x
    · rw [e]
      intro k e1 e2
      rcases hl with hl | hl
      · exact h.apart u.key k (hl.symm.trans e1) e2
      · rw [hl] at e1
        injection e1 with e1
        have := (h.row.lt k e2).2
        omega
end

/-- What the look-up, and the loads beside it, read. -/
structure GrpS (W0 W : World) (B base p b g : Nat) (us A : List Upd) (V : List UInt8 → Value) (D : DataW Unit) (a : Option Addr) (c : Nat) (T : Upd) : Prop where
  buf : BufG W0 W B base p b us A V D a c
  cells : FourAt W g T
  far : (V T.key).ownBlock ≠ some g
section
variable {W0 W w' : World} {B base p b g : Nat} {us A : List Upd} {V : List UInt8 → Value} {D : DataW Unit} {a : Option Addr} {c : Nat} {T : Upd}
theorem GrpS.alloc (h : GrpS W0 W B base p b g us A V D a c T) (o : Obj) : GrpS W0 (W.alloc o) B base p b g us A V D a c T :=
  ⟨h.buf.on ((Below.refl _ _).alloc (Nat.le_refl _) o), h.cells.alloc o, h.far⟩
theorem GrpS.drew (h : GrpS W0 W B base p b g us A V D a c T) : GrpS W0 W.drew B base p b g us A V D a c T :=
  ⟨h.buf.on (below_drew' (Below.refl _ _)), h.cells.drew, h.far⟩
theorem GrpS.held (h : GrpS W0 W B base p b g us A V D a c T) (hk : T.key.length ≤ 1000) : W.cell? ⟨g, 0, none⟩ = some (.int .u8 T.kind) ∧ W.cell? ⟨g, 1, none⟩ = some (.string (S T.key)) ∧ W.cell? ⟨g, 2, none⟩ = some (.string (S T.val)) ∧ W.cell? ⟨g, 3, none⟩ = some (.int .u64 T.delta) ∧
    (Instr.lookup 62 (.map (some b)) (.string (S T.key)) false).run Try.prog W = .ok (V T.key) W :=
  ⟨h.cells.c0, h.cells.c1, h.cells.c2, h.cells.c3, h.buf.map.look T.key hk⟩
end

theorem FourAt.setCell {W : World} {g : Nat} {X : Upd} (h : FourAt W g X) {p : Nat} (hp : g ≠ p) (v : Value) : FourAt (W.setCell ⟨p, 0, none⟩ v) g X := by
  have e : ∀ k, (W.setCell ⟨p, 0, none⟩ v).cell? ⟨g, k, none⟩ = W.cell? ⟨g, k, none⟩ := fun k => World.cell?_setCell_other W _ _ _ (fun e => hp (congrArg Addr.block e).symm)
  exact ⟨(e 0).trans h.c0, (e 1).trans h.c1, (e 2).trans h.c2, (e 3).trans h.c3⟩
theorem look_of {w : World} {b n : Nat} {D : DataW Unit} {v : Value} (ho : w.ownsMap Try.prog 9 sliceD b n D) (x : List UInt8) (hv : sliceD v = some (D.atKey (.string x) .nil, [])) (hx : x.length ≤ 1000) : (Instr.lookup 62 (.map (some b)) (.string (S x)) false).run Try.prog w = .ok v w := by
  obtain ⟨v', ps, hrun, hv'⟩ := ho.lookup (Maps.string_keyed Try.underlying9) Try.underlying62 (zero_rows w) (zd := .nil) (zp := []) rfl (str_key x hx)
  rw [hrun, sliceD_inj hv' hv]
theorem GrpS.after {W0 W w1 : World} {B base p b g : Nat} {us A : List Upd} {V : List UInt8 → Value} {D : DataW Unit} {a : Option Addr} {c : Nat} {T : Upd} (h : GrpS W0 W B base p b g us A V D a c T) (hk : T.key.length ≤ 1000) (hg : W.grownBy w1 (V T.key).ownBlock) : w1.cell? ⟨g, 0, none⟩ = some (.int .u8 T.kind) ∧ w1.cell? ⟨g, 1, none⟩ = some (.string (S T.key)) ∧ w1.cell? ⟨g, 2, none⟩ = some (.string (S T.val)) ∧ w1.cell? ⟨g, 3, none⟩ = some (.int .u64 T.delta) ∧
    (Instr.lookup 62 (.map (some b)) (.string (S T.key)) false).run Try.prog w1 = .ok (V T.key) w1 := by
  have hb : some b ≠ (V T.key).ownBlock := fun e => by
    have := ((h.buf.map.row T.key).lt b e.symm).1
    have := h.buf.map.lt
    omega
  have hc := h.cells.grown hg h.far
  exact ⟨hc.c0, hc.c1, hc.c2, hc.c3, look_of (h.buf.map.own.kept hg hb) T.key (h.buf.map.get T.key) hk⟩
theorem BufG.start (w : World) (o : Obj) : BufG w (((w.alloc o).alloc (.cells #[.slice none 0 0] 36)).alloc (.map #[] 0)) w.heap.size (w.heap.size + 1 + 1 + 1) (w.heap.size + 1) (w.heap.size + 1 + 1) [] [] (fun _ => .slice none 0 0) (.map []) none 0 := by
  have hG := GrpAt.start ((w.alloc o).alloc (.cells #[.slice none 0 0] 36))
  obtain ⟨-, hf, -⟩ := ((InBox.new (w.alloc o) 36)).on (Below.alloc (Below.refl _ _) (Nat.le_refl _) (.map #[] 0))
  simp only [World.size_alloc] at hG hf
  exact ⟨hG, cell_past (.map #[] 0) (by simp), hf, World.ownsRow_nil _ _ _ _, fun x k e => by simp [Value.ownBlock] at e, by omega, by omega, ((((Below.refl _ _).alloc (Nat.le_refl _) _).alloc (by simp) _).alloc (by simp; omega) _), by omega, by omega⟩
theorem withOwn_next (a : Option Addr) (n c : Nat) (us : List Upd) (u : Upd) (w : World) (hn : n = (withAll us).length) (h : BoxU w (.agg #[.slice a n c]) (withAll us)) (hl : us.length ≤ 1000) (hus : ∀ x ∈ us, x.Wf ∧ x.val.length ≤ 1000000) (hu : u.Wf) :
    Calls Try.prog 12 #[.agg #[.slice a n c], .agg #[.int .u8 u.kind, .string (S u.key), .string (S u.val), .int .u64 u.delta]] w fun e w' => (∃ a' c', e = .returned (.agg #[.slice a' (withAll (us ++ [u])).length c']) ∧ w'.ownsRow w.heap.size 31 4 (.slice a' (withAll (us ++ [u])).length c') (withAll (us ++ [u])).length (cellsU (withAll (us ++ [u])))) ∧ Below w.heap.size w w' := by
  subst hn
  obtain ⟨h1, h2, h3⟩ := withAll_ok us hus
  refine (with_own _ (withAll us) u.kind u.key u.val u.delta w h (by omega) h1 h2 hu.1 hu.2).mono ?_
  rintro e w' ⟨⟨v', he, a', c', hv, ho⟩, hb⟩
  rw [show withL (withAll us) ⟨u.kind, u.key, u.val, u.delta⟩ = withAll (us ++ [u]) from (withAll_snoc us u).symm] at hv ho
  subst hv
  exact ⟨⟨a', c', he, ho⟩, hb⟩

/-- What a range over the map holds. -/
structure RngG (wA W : World) (b n : Nat) (D : DataW Unit) (us : List Upd) (left : Lit → Bool) (cnt : Nat) : Prop where
  rng : W.ranges Try.prog 9 sliceD b wA.heap.size n D left cnt
  sub : ∀ x, left (.string x) = true → x ∈ us.map Upd.key
  below : Below wA.heap.size wA W
  lt : b < wA.heap.size
section
variable {wA W w' : World} {b n : Nat} {D : DataW Unit} {us : List Upd} {left : Lit → Bool} {cnt : Nat}
theorem grown_of_below {W w' : World} {row : Option Nat} (hb : Below W.heap.size W w') : W.grownBy w' row :=
  ⟨hb.os, hb.tape, hb.output, hb.size, fun i hi _ => hb.block i hi⟩
theorem RngG.on (h : RngG wA W b n D us left cnt) (hb : Below W.heap.size W w') : RngG wA w' b n D us left cnt :=
  ⟨h.rng.kept (row := none) (grown_of_below hb) (by simp) (by simp), h.sub, h.below.trans (hb.mono h.below.size), h.lt⟩
theorem RngG.step (h : RngG wA W b n D us left cnt) {kl : Lit} {cnt' : Nat} (hr : w'.ranges Try.prog 9 sliceD b wA.heap.size n D (fun z => left z && !z.sameKey kl) cnt') (hg : W.grownBy w' (some wA.heap.size)) : RngG wA w' b n D us (fun z => left z && !z.sameKey kl) cnt' :=
  ⟨hr, fun x hx => h.sub x (by simp only [Bool.and_eq_true] at hx; exact hx.1), below_grown h.below hg (fun k e => by injection e with e; omega) h.below.size, h.lt⟩
end
theorem find_filter (l : List Upd) (p : List UInt8 → Bool) (k : List UInt8) : (l.filter fun u => p u.key).find? (fun u => u.key == k) = if p k then l.find? (fun u => u.key == k) else none := by
  induction l with
  | nil => simp
  | cons u t ih =>
    by_cases hu : u.key = k
    · subst hu
      cases hp : p u.key with
      | true => rw [List.filter_cons_of_pos (by simpa using hp)]; simp
      | false => rw [List.filter_cons_of_neg (by simp [hp]), ih, hp]; rfl
    · cases hp : p u.key with
      | true => rw [List.filter_cons_of_pos (by simpa using hp), List.find?_cons_of_neg (by simpa using hu), List.find?_cons_of_neg (by simpa using hu), ih]
      | false => rw [List.filter_cons_of_neg (by simp [hp]), List.find?_cons_of_neg (by simpa using hu), ih]
/-- What the three Gets of a key of the map find. -/
theorem get_round (us : List Upd) (hus : ∀ u ∈ us, Tm u) (k : List UInt8) (hk : k ∈ us.map Upd.key) (low high : List UInt8) :
    ∃ x, Tm x ∧ getL (withAll us) k = some x ∧ joinAll (grp us k) = some x ∧ getL (cutIn (withAll us) low high) k = (if withinB k low high = true then some x else none) ∧ getL (cutOut (withAll us) low high) k = (if withinB k low high = true then none else some x) := by
  obtain ⟨y, hy, rfl⟩ := List.mem_map.1 hk
  have hr := (withAll_ok us (tm_ok hus)).1
  have hq : y ∈ grp us y.key := List.mem_filter.2 ⟨hy, by simp⟩
  have hg := getL_all us hus y.key
  cases hj : joinAll (grp us y.key) with
  | none =>
    rcases List.eq_nil_or_concat (grp us y.key) with e2 | ⟨l', a, e2⟩
    · rw [e2] at hq; simp at hq
    · rw [e2, List.concat_eq_append, joinAll_snoc] at hj; exact absurd hj (by simp)
  | some x =>
    rw [hj] at hg
    refine ⟨x, joinAll_tm _ (fun u hu => hus u (grp_mem hu).1) x hj, hg, rfl, ?_, ?_⟩
    · rw [(cut_filter hr low high).1]
      unfold getL at hg ⊢
      rw [find_filter (withAll us) (fun z => withinB z low high) y.key, hg]
    · rw [(cut_filter hr low high).2]
      unfold getL at hg ⊢
      rw [find_filter (withAll us) (fun z => !withinB z low high) y.key, hg]
      cases withinB y.key low high <;> rfl
theorem filter_both (l : List Upd) (p : Upd → Bool) : (l.filter p).length + (l.filter fun u => !p u).length = l.length := by
  induction l with
  | nil => rfl
  | cons u t ih =>
    cases hp : p u with
    | true => rw [List.filter_cons_of_pos hp, List.filter_cons_of_neg (by simp [hp])]; simp only [List.length_cons]; omega
    | false => rw [List.filter_cons_of_neg (by simp [hp]), List.filter_cons_of_pos (by simp [hp])]; simp only [List.length_cons]; omega
theorem cut_both {l : List Upd} (hr : Rising Upd.key l) (low high : List UInt8) : (cutIn l low high).length + (cutOut l low high).length = l.length := by
  rw [(cut_filter hr low high).1, (cut_filter hr low high).2]
  exact filter_both l _
/-- Both ways to play them agree. -/
theorem all_round (us : List Upd) (hus : ∀ u ∈ us, Tm u) (k : List UInt8) {x : Upd} (hj : joinAll (grp us k) = some x) (v : List UInt8) (th : Bool) : onAllL (if th then v else []) th (grp us k) = onL v th x := by
  rw [onAllL_join _ (fun u hu => hus u (grp_mem hu).1) x hj, onL_there]

end Go.Proofs.Ytcjeonamebnpfaa
