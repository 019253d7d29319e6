/-
  The walk of the document's Halves.
-/
import Derived.Test.YtlmlmkeomlehmaaOfb
import Derived.Test.YtlmlmkeomlehmaaFap
import Derived.Deep.RegionLawGrows
namespace Go.Proofs.Ytlmlmkeomlehmaa
open Go.RowKit
attribute [local go_sem ↓] Go.wp_at_zero Go.wp_at_succ


theorem SlAt.old {α : Type} {enc : α → List Value} {k : Nat} {W0 w : World} {ao : Option Addr} {l : List α} (h : SlAt enc k W0 ao l) {p q o : Nat} {A M : Value} (hsz : W0.heap.size ≤ w.heap.size)
    (hold : ∀ b o', b < W0.heap.size → ¬ (b = p ∧ o' = o) → ¬ (b = q ∧ o' = o) → w.cell? ⟨b, o', none⟩ = W0.cell? ⟨b, o', none⟩) (hp : W0.cell? ⟨p, o, none⟩ = some A) (hq : W0.cell? ⟨q, o, none⟩ = some M) (hne : ∀ x ∈ l, A ∉ enc x ∧ M ∉ enc x) : SlAt enc k w ao l := by
  rcases h with rfl | ⟨b, off, rfl, hb, hc⟩
  · exact Or.inl rfl
  · refine Or.inr ⟨b, off, rfl, Nat.lt_of_lt_of_le hb hsz, fun i hi j x hx => ?_⟩
    have hcell := hc i hi j x hx
    rw [hold b _ hb]
    · exact hcell
    · rintro ⟨rfl, e⟩
      rw [e, hp] at hcell
      injection hcell with hcell
      subst hcell
      exact (hne _ (List.getElem_mem hi)).1 (List.mem_of_getElem? hx)
    · rintro ⟨rfl, e⟩
      rw [e, hq] at hcell
      injection hcell with hcell
      subst hcell
      exact (hne _ (List.getElem_mem hi)).2 (List.mem_of_getElem? hx)

/-- Two boxes that hold two rows of the call's own, at one of their cells. -/
structure Hv (B : Nat) (ws W0 : World) (p q o : Nat) (E : TypeId) (w : World) (A M : Value) (na nm : Nat) (xa xm : List Value) : Prop where
  own1 : w.ownsRow W0.heap.size E 4 A na xa
  own2 : w.ownsRow W0.heap.size E 4 M nm xm
  apart : ApartV A M
  le : W0.heap.size ≤ w.heap.size
  cp : w.cell? ⟨p, o, none⟩ = some A
  cq : w.cell? ⟨q, o, none⟩ = some M
  old : ∀ b o', b < W0.heap.size → ¬ (b = p ∧ o' = o) → ¬ (b = q ∧ o' = o) → w.cell? ⟨b, o', none⟩ = W0.cell? ⟨b, o', none⟩
  frz : ∀ b o', b < W0.heap.size → w.frozen? ⟨b, o', none⟩ = W0.frozen? ⟨b, o', none⟩
  below : Below B ws w
  lp : p < W0.heap.size
  lq : q < W0.heap.size
  hp : B ≤ p
  hq : B ≤ q
  ne : p ≠ q
section
variable {B : Nat} {ws W0 w w' : World} {p q o : Nat} {E : TypeId} {A M : Value} {na nm : Nat} {xa xm : List Value}
theorem Hv.lt (h : Hv B ws W0 p q o E w A M na nm xa xm) : p < w.heap.size ∧ q < w.heap.size := ⟨Nat.lt_of_lt_of_le h.lp h.le, Nat.lt_of_lt_of_le h.lq h.le⟩
theorem Hv.leB (h : Hv B ws W0 p q o E w A M na nm xa xm) : B ≤ w.heap.size := by have := h.hp; have := h.lt; omega
theorem Hv.on (h : Hv B ws W0 p q o E w A M na nm xa xm) (hb : Below w.heap.size w w') : Hv B ws W0 p q o E w' A M na nm xa xm :=
  ⟨own_below h.own1 hb, own_below h.own2 hb, h.apart, Nat.le_trans h.le hb.size, kept_cell hb h.cp, kept_cell hb h.cq,
    fun b o' h1 h2 h3 => ((bcell hb).1 b o' (Nat.lt_of_lt_of_le h1 h.le)).trans (h.old b o' h1 h2 h3), fun b o' h1 => ((bcell hb).2 b o' (Nat.lt_of_lt_of_le h1 h.le)).trans (h.frz b o' h1),
    h.below.trans (hb.mono h.leB), h.lp, h.lq, h.hp, h.hq, h.ne⟩
theorem Hv.symm (h : Hv B ws W0 p q o E w A M na nm xa xm) : Hv B ws W0 q p o E w M A nm na xm xa :=
  ⟨h.own2, h.own1, h.apart.symm, h.le, h.cq, h.cp, fun b o' h1 h2 h3 => h.old b o' h1 h3 h2, h.frz, h.below, h.lq, h.lp, h.hq, h.hp, h.ne.symm⟩
theorem Hv.far (h : Hv B ws W0 p q o E w A M na nm xa xm) {b : Nat} (hb : b < W0.heap.size) : A.ownBlock ≠ some b ∧ M.ownBlock ≠ some b :=
  ⟨fun e => by have := (h.own1.lt b e).1; omega, fun e => by have := (h.own2.lt b e).1; omega⟩
/-- One has grown, and is put back. -/
theorem Hv.app (h : Hv B ws W0 p q o E w A M na nm xa xm) {v' : Value} {n' : Nat} {x' : List Value} (ho : w'.ownsRow W0.heap.size E 4 v' n' x') (hg : w.grownBy w' A.ownBlock) (hb : v'.ownBlock = A.ownBlock ∨ v'.ownBlock = some w.heap.size) :
    Hv B ws W0 p q o E (w'.setCell ⟨p, o, none⟩ v') v' M n' nm x' xm := by
  have hpf := h.far h.lp
  have hqf := h.far h.lq
  have e1 : some p ≠ A.ownBlock := fun e => hpf.1 e.symm
  have e2 : some q ≠ A.ownBlock := fun e => hqf.1 e.symm
  have z0 := hg.cell h.cp e1
  have v1 : v'.ownBlock ≠ some p := fun e => by have := (ho.lt p e).1; have := h.lp; omega
  have m1 : M.ownBlock ≠ some p := hpf.2
  refine ⟨ownsRow_setCell_other (a := ⟨p, o, none⟩) ho v1 _, ownsRow_setCell_other (a := ⟨p, o, none⟩) (h.own2.kept hg h.apart.keep) m1 _, fun k e e' => ?_, by rw [World.size_setCell]; exact Nat.le_trans h.le hg.size,
    World.cell?_setCell_same _ _ _ z0, ?_, fun b o' h1 h2 h3 => ?_, fun b o' h1 => ?_, ?_, h.lp, h.lq, h.hp, h.hq, h.ne⟩
  · rcases hb with hb | hb
    · exact h.apart k (hb.symm.trans e) e'
    · rw [hb] at e
      injection e with e
      have := (h.own2.lt k e').2
      omega
  · rw [World.cell?_setCell_other _ _ _ _ (addr_ne (Or.inl h.ne))]; exact hg.cell h.cq e2
  · have hbl := Nat.lt_of_lt_of_le h1 h.le
    rw [World.cell?_setCell_other _ _ _ _ (addr_ne (by by_cases e : p = b; exact Or.inr (fun e' => h2 ⟨e.symm, e'.symm⟩); exact Or.inl e)), World.cell?_of_block (hg.block b hbl (fun e => (h.far h1).1 e.symm))]
    exact h.old b o' h1 h2 h3
  · have hbl := Nat.lt_of_lt_of_le h1 h.le
    rw [World.frozen?_setCell, World.frozen?_of_block (hg.block b hbl (fun e => (h.far h1).1 e.symm))]
    exact h.frz b o' h1
  · exact (below_grown h.below hg (fun k e => by have := (h.own1.lt k e).1; have := h.lp; have := h.hp; omega) h.leB).setCell (p := ⟨p, o, none⟩) h.hp _
end

theorem Hv.grown {B : Nat} {ws W0 w w' : World} {p q o : Nat} {E : TypeId} {A M : Value} {na nm : Nat} {xa xm : List Value} (h : Hv B ws W0 p q o E w A M na nm xa xm) (hg : w.grownBy w' A.ownBlock) : w'.cell? ⟨p, o, none⟩ = some A ∧ ∀ o', w'.frozen? ⟨p, o', none⟩ = W0.frozen? ⟨p, o', none⟩ :=
  ⟨hg.cell h.cp (fun e => (h.far h.lp).1 e.symm), fun o' => (World.frozen?_of_block (hg.block p h.lt.1 (fun e => (h.far h.lp).1 e.symm))).trans (h.frz p o' h.lp)⟩
theorem SlC.old {W0 w : World} {v : Value} {l : List Chd} (h : SlC W0 v l) {p q o : Nat} {a b : Option Addr} {n c m d : Nat} (hsz : W0.heap.size ≤ w.heap.size)
    (hold : ∀ b o', b < W0.heap.size → ¬ (b = p ∧ o' = o) → ¬ (b = q ∧ o' = o) → w.cell? ⟨b, o', none⟩ = W0.cell? ⟨b, o', none⟩) (hp : W0.cell? ⟨p, o, none⟩ = some (.slice a n c)) (hq : W0.cell? ⟨q, o, none⟩ = some (.slice b m d)) : SlC w v l := by
  obtain ⟨ao, c', rfl, hs, h1, h2, h3⟩ := h
  exact ⟨ao, c', rfl, hs.old hsz hold hp hq (fun x _ => by simp [Chd.cells]), h1, h2, h3⟩
theorem filter_le3 {α : Type} (F : α → Bool) (l : List α) (j : Nat) : ((l.take j).filter F).length ≤ l.length := by
  have h1 := List.length_filter_le F (l.take j)
  have h2 := List.length_take_le j l
  rw [List.length_take] at h1
  omega
theorem filter_take3 {α : Type} (F : α → Bool) (l : List α) (j : Nat) (h : j < l.length) : (l.take (j + 1)).filter F = if F l[j] = true then (l.take j).filter F ++ [l[j]] else (l.take j).filter F := by
  rw [List.take_succ_eq_append_getElem h, List.filter_append]
  split
  · rename_i h1; rw [List.filter_cons_of_pos h1]; rfl
  · rename_i h1; rw [List.filter_cons_of_neg h1]; simp
/-- The second half, as far as it has come. -/
theorem headless_snoc (l : List Chd) (c : Chd) (h : 0 < l.length) : headless (l ++ [c]) = headless l ++ [c] := by
  cases l with
  | nil => simp at h
  | cons a t => rfl

set_option maxRecDepth 100000 in
set_option maxHeartbeats 4000000 in
theorem refHalves_none (v : Value) (cs : List Chd) (us : List Upd) (w : World) (h : NodeAt w v cs us) (hl : cs.length < 2) :
    Calls Try.prog 37 #[v] w fun e w' => e = .returned (.tuple #[.agg #[.slice none 0 0, .slice none 0 0], .agg #[.slice none 0 0, .slice none 0 0], .string ⟨#[]⟩, .bool false]) ∧ Below w.heap.size w w' := by
  obtain ⟨a, b, x, y, rfl, h1, h2⟩ := h
  clear h1 h2
  have hl' : (cs.length : Int) < 2 := by omega
  go_enter Try.func37, Try.ntmps37
  go_wp2_with fail
  have hB0 := Below.refl w.heap.size w
  obtain ⟨W, hW_W⟩ : ∃ W, W = (((((w.alloc (.cells #[.slice a cs.length x, .slice b us.length y] 35)).alloc (.cells #[.slice none 0 0, .slice none 0 0] 35)).alloc (.cells #[.slice none 0 0, .slice none 0 0] 35)).alloc (.cells #[.slice none 0 0, .slice none 0 0] 35)).alloc (.cells #[.slice none 0 0, .slice none 0 0] 35)) := ⟨_, rfl⟩
  rw [← hW_W]
  have hX_W : Below w.heap.size w W := by rw [hW_W]; go_grown
  have n0 : W.cell? ⟨w.heap.size, 0, none⟩ = some (.slice a cs.length x) := by rw [hW_W, World.cell?_alloc_past _ _ _ (by simp <;> omega), World.cell?_alloc_past _ _ _ (by simp <;> omega), World.cell?_alloc_past _ _ _ (by simp <;> omega), World.cell?_alloc_past _ _ _ (by simp <;> omega), World.cell?_alloc_at _ _ _ _ (by simp)]; rfl
  have n1 : W.cell? ⟨w.heap.size, 1, none⟩ = some (.slice b us.length y) := by rw [hW_W, World.cell?_alloc_past _ _ _ (by simp <;> omega), World.cell?_alloc_past _ _ _ (by simp <;> omega), World.cell?_alloc_past _ _ _ (by simp <;> omega), World.cell?_alloc_past _ _ _ (by simp <;> omega), World.cell?_alloc_at _ _ _ _ (by simp)]; rfl
  have c0 : W.cell? ⟨w.heap.size + 1, 0, none⟩ = some (.slice none 0 0) := by rw [hW_W, World.cell?_alloc_past _ _ _ (by simp <;> omega), World.cell?_alloc_past _ _ _ (by simp <;> omega), World.cell?_alloc_past _ _ _ (by simp <;> omega), World.cell?_alloc_at _ _ _ _ (by simp)]; rfl
  have c1 : W.cell? ⟨w.heap.size + 1, 1, none⟩ = some (.slice none 0 0) := by rw [hW_W, World.cell?_alloc_past _ _ _ (by simp <;> omega), World.cell?_alloc_past _ _ _ (by simp <;> omega), World.cell?_alloc_past _ _ _ (by simp <;> omega), World.cell?_alloc_at _ _ _ _ (by simp)]; rfl
  have cf0 : W.frozen? ⟨w.heap.size + 1, 0, none⟩ = false := by rw [hW_W, World.frozen?_alloc_past _ _ _ (by simp <;> omega), World.frozen?_alloc_past _ _ _ (by simp <;> omega), World.frozen?_alloc_past _ _ _ (by simp <;> omega), World.frozen?_alloc_at _ _ _ _ (by simp)]
  have cf1 : W.frozen? ⟨w.heap.size + 1, 1, none⟩ = false := by rw [hW_W, World.frozen?_alloc_past _ _ _ (by simp <;> omega), World.frozen?_alloc_past _ _ _ (by simp <;> omega), World.frozen?_alloc_past _ _ _ (by simp <;> omega), World.frozen?_alloc_at _ _ _ _ (by simp)]
  have d0 : W.cell? ⟨w.heap.size + 1 + 1, 0, none⟩ = some (.slice none 0 0) := by rw [hW_W, World.cell?_alloc_past _ _ _ (by simp <;> omega), World.cell?_alloc_past _ _ _ (by simp <;> omega), World.cell?_alloc_at _ _ _ _ (by simp)]; rfl
  have d1 : W.cell? ⟨w.heap.size + 1 + 1, 1, none⟩ = some (.slice none 0 0) := by rw [hW_W, World.cell?_alloc_past _ _ _ (by simp <;> omega), World.cell?_alloc_past _ _ _ (by simp <;> omega), World.cell?_alloc_at _ _ _ _ (by simp)]; rfl
  have df0 : W.frozen? ⟨w.heap.size + 1 + 1, 0, none⟩ = false := by rw [hW_W, World.frozen?_alloc_past _ _ _ (by simp <;> omega), World.frozen?_alloc_past _ _ _ (by simp <;> omega), World.frozen?_alloc_at _ _ _ _ (by simp)]
  have df1 : W.frozen? ⟨w.heap.size + 1 + 1, 1, none⟩ = false := by rw [hW_W, World.frozen?_alloc_past _ _ _ (by simp <;> omega), World.frozen?_alloc_past _ _ _ (by simp <;> omega), World.frozen?_alloc_at _ _ _ _ (by simp)]
  have e0 : W.cell? ⟨w.heap.size + 1 + 1 + 1, 0, none⟩ = some (.slice none 0 0) := by rw [hW_W, World.cell?_alloc_past _ _ _ (by simp <;> omega), World.cell?_alloc_at _ _ _ _ (by simp)]; rfl
  have e1 : W.cell? ⟨w.heap.size + 1 + 1 + 1, 1, none⟩ = some (.slice none 0 0) := by rw [hW_W, World.cell?_alloc_past _ _ _ (by simp <;> omega), World.cell?_alloc_at _ _ _ _ (by simp)]; rfl
  have f0 : W.cell? ⟨w.heap.size + 1 + 1 + 1 + 1, 0, none⟩ = some (.slice none 0 0) := by rw [hW_W, World.cell?_alloc_at _ _ _ _ (by simp)]; rfl
  have f1 : W.cell? ⟨w.heap.size + 1 + 1 + 1 + 1, 1, none⟩ = some (.slice none 0 0) := by rw [hW_W, World.cell?_alloc_at _ _ _ _ (by simp)]; rfl
  clear hW_W
  have hz_W := hX_W.size
  replace hB0 := hB0.trans (hX_W.mono hB0.size)
  clear hX_W
  have hWs : w.heap.size + 4 < W.heap.size := World.block_lt_of_cell? W _ f0
  clear n0 n1
  go_region
  all_goals
    go_wp2_with fail
    refine bodyPost_ret (v := .tuple #[.agg #[.slice none 0 0, .slice none 0 0], .agg #[.slice none 0 0, .slice none 0 0], .string ⟨#[]⟩, .bool false]) ?_ rfl ⟨rfl, ?_⟩
    · simp [results, Try.results37, go_sem, c0, c1, d0, d1]
    · exact below_drew' ((((hB0.setCell (p := ⟨w.heap.size + 1, 0, none⟩) (by simp) _).setCell (p := ⟨w.heap.size + 1, 1, none⟩) (by simp) _).setCell (p := ⟨w.heap.size + 1 + 1, 0, none⟩) (by simp; omega) _).setCell (p := ⟨w.heap.size + 1 + 1, 1, none⟩) (by simp; omega) _)

theorem take_min_succ (cs : List Chd) (j m : Nat) (hj : j < cs.length) (hjm : j < m) : (cs.take (j + 1)).take m = (cs.take j).take m ++ [cs[j]] ∧ headless ((cs.take (j + 1)).drop m) = headless ((cs.take j).drop m) := by
  constructor
  · rw [List.take_take, List.take_take, Nat.min_eq_right (by omega), Nat.min_eq_right (by omega), List.take_succ_eq_append_getElem hj]
  · rw [List.drop_eq_nil_of_le (by rw [List.length_take]; omega), List.drop_eq_nil_of_le (by rw [List.length_take]; omega)]
theorem drop_at_succ (cs : List Chd) (j : Nat) (hj : j < cs.length) : (cs.take (j + 1)).take j = (cs.take j).take j ∧ headless ((cs.take (j + 1)).drop j) = headless ((cs.take j).drop j) ++ [{ cs[j] with low := [] }] := by
  constructor
  · rw [List.take_take, List.take_take, Nat.min_eq_left (by omega), Nat.min_self]
  · rw [List.take_succ_eq_append_getElem hj, List.drop_append_of_le_length (by rw [List.length_take]; omega), List.drop_eq_nil_of_le (by rw [List.length_take]; omega)]
    rfl
theorem drop_over_succ (cs : List Chd) (j m : Nat) (hj : j < cs.length) (hjm : m < j) : (cs.take (j + 1)).take m = (cs.take j).take m ∧ headless ((cs.take (j + 1)).drop m) = headless ((cs.take j).drop m) ++ [cs[j]] := by
  constructor
  · rw [List.take_take, List.take_take, Nat.min_eq_left (by omega), Nat.min_eq_left (by omega)]
  · rw [List.take_succ_eq_append_getElem hj, List.drop_append_of_le_length (by rw [List.length_take]; omega), headless_snoc _ _ (by rw [List.length_drop, List.length_take]; omega)]

set_option maxRecDepth 100000 in
set_option maxHeartbeats 16000000 in
theorem refHalves_some (v : Value) (cs : List Chd) (us : List Upd) (w : World) (h : NodeAt w v cs us) (hl : 2 ≤ cs.length) (hl2 : cs.length ≤ 1000) (hu : us.length ≤ 1000) (m : Nat) (hm : (cs.length + 1) / 2 = m) (F G : Upd → Bool) (hF : ∀ u, F u = bl u.key (lowAt cs m)) (hG : ∀ u, G u = !F u) :
    Calls Try.prog 37 #[v] w fun e w' => (∃ va vb, e = .returned (.tuple #[va, vb, .string (S (lowAt cs m)), .bool true]) ∧ NodeAt w' va (cs.take m) (us.filter F) ∧ NodeAt w' vb (headless (cs.drop m)) (us.filter G)) ∧ Below w.heap.size w w' := by
  obtain ⟨i0, hi, iz0, iz1, iz2⟩ := info_parts infoC2
  obtain ⟨j0, hji, jz0, jz1, jz2⟩ := info_parts infoV2
  obtain ⟨a, b, x, y, rfl, h1, h2⟩ := h
  have hm1 : 1 ≤ m := by omega
  have hm2 : m < cs.length := by omega
  have hmm : (cs.length : Int) - (cs.length : Int) / 2 = (m : Int) := by omega
  obtain ⟨b0, off, e0, hb0, t0, -, -, -⟩ := h1.at.cells4C m hm2
  subst e0
  rw [← lowAt_get hm2] at t0
  have HC := Lib.hid h1
  have HU := Lib.hid h2
  have HF := Lib.hid hF
  have HG := Lib.hid hG
  have hl' : (2 : Int) ≤ (cs.length : Int) := by omega
  have hmi : (m : Int) < (cs.length : Int) := by omega
  have hmi0 : (0 : Int) ≤ (m : Int) := by omega
  clear h1 h2 hF hG hm
  go_enter Try.func37, Try.ntmps37
  go_upto_region 6 with (fail)
  have hB0 := Below.refl w.heap.size w
  obtain ⟨W, hW_W⟩ : ∃ W, W = (((((w.alloc (.cells #[.slice (some ⟨b0, off, none⟩) cs.length x, .slice b us.length y] 35)).alloc (.cells #[.slice none 0 0, .slice none 0 0] 35)).alloc (.cells #[.slice none 0 0, .slice none 0 0] 35)).alloc (.cells #[.slice none 0 0, .slice none 0 0] 35)).alloc (.cells #[.slice none 0 0, .slice none 0 0] 35)) := ⟨_, rfl⟩
  rw [← hW_W]
  have hX_W : Below w.heap.size w W := by rw [hW_W]; go_grown
  have n0 : W.cell? ⟨w.heap.size, 0, none⟩ = some (.slice (some ⟨b0, off, none⟩) cs.length x) := by rw [hW_W, World.cell?_alloc_past _ _ _ (by simp <;> omega), World.cell?_alloc_past _ _ _ (by simp <;> omega), World.cell?_alloc_past _ _ _ (by simp <;> omega), World.cell?_alloc_past _ _ _ (by simp <;> omega), World.cell?_alloc_at _ _ _ _ (by simp)]; rfl
  have n1 : W.cell? ⟨w.heap.size, 1, none⟩ = some (.slice b us.length y) := by rw [hW_W, World.cell?_alloc_past _ _ _ (by simp <;> omega), World.cell?_alloc_past _ _ _ (by simp <;> omega), World.cell?_alloc_past _ _ _ (by simp <;> omega), World.cell?_alloc_past _ _ _ (by simp <;> omega), World.cell?_alloc_at _ _ _ _ (by simp)]; rfl
  have c0 : W.cell? ⟨w.heap.size + 1, 0, none⟩ = some (.slice none 0 0) := by rw [hW_W, World.cell?_alloc_past _ _ _ (by simp <;> omega), World.cell?_alloc_past _ _ _ (by simp <;> omega), World.cell?_alloc_past _ _ _ (by simp <;> omega), World.cell?_alloc_at _ _ _ _ (by simp)]; rfl
  have c1 : W.cell? ⟨w.heap.size + 1, 1, none⟩ = some (.slice none 0 0) := by rw [hW_W, World.cell?_alloc_past _ _ _ (by simp <;> omega), World.cell?_alloc_past _ _ _ (by simp <;> omega), World.cell?_alloc_past _ _ _ (by simp <;> omega), World.cell?_alloc_at _ _ _ _ (by simp)]; rfl
  have cf0 : W.frozen? ⟨w.heap.size + 1, 0, none⟩ = false := by rw [hW_W, World.frozen?_alloc_past _ _ _ (by simp <;> omega), World.frozen?_alloc_past _ _ _ (by simp <;> omega), World.frozen?_alloc_past _ _ _ (by simp <;> omega), World.frozen?_alloc_at _ _ _ _ (by simp)]
  have cf1 : W.frozen? ⟨w.heap.size + 1, 1, none⟩ = false := by rw [hW_W, World.frozen?_alloc_past _ _ _ (by simp <;> omega), World.frozen?_alloc_past _ _ _ (by simp <;> omega), World.frozen?_alloc_past _ _ _ (by simp <;> omega), World.frozen?_alloc_at _ _ _ _ (by simp)]
  have d0 : W.cell? ⟨w.heap.size + 1 + 1, 0, none⟩ = some (.slice none 0 0) := by rw [hW_W, World.cell?_alloc_past _ _ _ (by simp <;> omega), World.cell?_alloc_past _ _ _ (by simp <;> omega), World.cell?_alloc_at _ _ _ _ (by simp)]; rfl
  have d1 : W.cell? ⟨w.heap.size + 1 + 1, 1, none⟩ = some (.slice none 0 0) := by rw [hW_W, World.cell?_alloc_past _ _ _ (by simp <;> omega), World.cell?_alloc_past _ _ _ (by simp <;> omega), World.cell?_alloc_at _ _ _ _ (by simp)]; rfl
  have df0 : W.frozen? ⟨w.heap.size + 1 + 1, 0, none⟩ = false := by rw [hW_W, World.frozen?_alloc_past _ _ _ (by simp <;> omega), World.frozen?_alloc_past _ _ _ (by simp <;> omega), World.frozen?_alloc_at _ _ _ _ (by simp)]
  have df1 : W.frozen? ⟨w.heap.size + 1 + 1, 1, none⟩ = false := by rw [hW_W, World.frozen?_alloc_past _ _ _ (by simp <;> omega), World.frozen?_alloc_past _ _ _ (by simp <;> omega), World.frozen?_alloc_at _ _ _ _ (by simp)]
  have e0 : W.cell? ⟨w.heap.size + 1 + 1 + 1, 0, none⟩ = some (.slice none 0 0) := by rw [hW_W, World.cell?_alloc_past _ _ _ (by simp <;> omega), World.cell?_alloc_at _ _ _ _ (by simp)]; rfl
  have e1 : W.cell? ⟨w.heap.size + 1 + 1 + 1, 1, none⟩ = some (.slice none 0 0) := by rw [hW_W, World.cell?_alloc_past _ _ _ (by simp <;> omega), World.cell?_alloc_at _ _ _ _ (by simp)]; rfl
  have ef0 : W.frozen? ⟨w.heap.size + 1 + 1 + 1, 0, none⟩ = false := by rw [hW_W, World.frozen?_alloc_past _ _ _ (by simp <;> omega), World.frozen?_alloc_at _ _ _ _ (by simp)]
  have ef1 : W.frozen? ⟨w.heap.size + 1 + 1 + 1, 1, none⟩ = false := by rw [hW_W, World.frozen?_alloc_past _ _ _ (by simp <;> omega), World.frozen?_alloc_at _ _ _ _ (by simp)]
  have f0 : W.cell? ⟨w.heap.size + 1 + 1 + 1 + 1, 0, none⟩ = some (.slice none 0 0) := by rw [hW_W, World.cell?_alloc_at _ _ _ _ (by simp)]; rfl
  have f1 : W.cell? ⟨w.heap.size + 1 + 1 + 1 + 1, 1, none⟩ = some (.slice none 0 0) := by rw [hW_W, World.cell?_alloc_at _ _ _ _ (by simp)]; rfl
  have ff0 : W.frozen? ⟨w.heap.size + 1 + 1 + 1 + 1, 0, none⟩ = false := by rw [hW_W, World.frozen?_alloc_at _ _ _ _ (by simp)]
  have ff1 : W.frozen? ⟨w.heap.size + 1 + 1 + 1 + 1, 1, none⟩ = false := by rw [hW_W, World.frozen?_alloc_at _ _ _ _ (by simp)]
  clear hW_W
  have hz_W := hX_W.size
  replace t0 := kept_cell hX_W t0
  replace hB0 := hB0.trans (hX_W.mono hB0.size)
  clear hX_W
  have hWs : w.heap.size + 1 + 1 + 1 + 1 < W.heap.size := World.block_lt_of_cell? W _ f0
  clear hmm
  have HLOW := Lib.hid (rfl : lowAt cs m = lowAt cs m)
  generalize hlow : lowAt cs m = low at *
  have HLW := Lib.hid hlow
  clear hlow HLOW
  go_wp2_with fail
  go_loopw [10] (fun i wr => ∃ (j : Nat) (o p : List Chd) (A M : Value), i = .int .i64 j ∧ j ≤ cs.length ∧ Hid (o = (cs.take j).take m ∧ p = headless ((cs.take j).drop m)) ∧ Hid (Hv w.heap.size w W (w.heap.size + 1 + 1 + 1) (w.heap.size + 1 + 1 + 1 + 1) 0 50 wr A M o.length p.length (cellsC o) (cellsC p))) (fun i _ => cs.length - (intOf i).toNat)
  case atStart => exact ⟨0, [], [], .slice none 0 0, .slice none 0 0, rfl, Nat.zero_le _, Lib.hid ⟨by simp, by simp [headless]⟩, Lib.hid ⟨World.ownsRow_nil _ _ _ _, World.ownsRow_nil _ _ _ _, fun k e => by simp [Value.ownBlock] at e, Nat.le_refl _, e0, f0, fun b o' _ _ _ => rfl, fun b o' _ => rfl, hB0, by omega, hWs, by omega, by omega, by omega⟩⟩
  case round =>
    obtain ⟨j, o, p, A, M, rfl, hj, hop, HT⟩ := hrel
    have hj0 : (0 : Int) ≤ (j : Int) := Int.natCast_nonneg _
    obtain ⟨ov, oc, eo⟩ := own_form HT.out.own1
    subst eo
    obtain ⟨pv, pc, ep⟩ := own_form HT.out.own2
    subst ep
    have hol : o.length ≤ cs.length := by rw [hop.out.1, List.length_take, List.length_take]; omega
    have hpl : p.length ≤ cs.length := by rw [hop.out.2, headless_len, List.length_drop, List.length_take]; omega
    have N0 := (HT.out.old w.heap.size 0 (by omega) (by omega) (by omega)).trans n0
    have N1 := (HT.out.old w.heap.size 1 (by omega) (by omega) (by omega)).trans n1
    obtain ⟨hz3, hz4⟩ := HT.out.lt
    have E0 := HT.out.cp
    have F0 := HT.out.cq
    by_cases hjl : j < cs.length
    · have hj1 : (j : Int) < (cs.length : Int) := by omega
      obtain ⟨b1, off1, e1, hb1, q0, q1, q2, q3⟩ := (HC.out.kept HT.out.below (Nat.le_refl _)).at.cells4C j hjl
      simp only [Option.some.injEq, Addr.mk.injEq, and_true] at e1
      obtain ⟨rfl, rfl⟩ := e1
      have hef := (HT.out.frz (w.heap.size + 1 + 1 + 1) 0 (by omega)).trans ef0
      have hff := (HT.out.frz (w.heap.size + 1 + 1 + 1 + 1) 0 (by omega)).trans ff0
      by_cases hjm : j < m
      · have HO1 := Lib.hid (show (cs.take (j + 1)).take m = o ++ [cs[j]] by rw [(take_min_succ cs j m hjl hjm).1, hop.out.1])
        have HO2 := Lib.hid (show headless ((cs.take (j + 1)).drop m) = p by rw [(take_min_succ cs j m hjl hjm).2, hop.out.2])
        have hjm1 : (j : Int) < (m : Int) := by omega
        clear n0 n1 t0
        generalize cs[j] = u at *
        have HT2 := Lib.hid (HT.out.on (show Below wr.heap.size wr ((wr.alloc (.cells #[.string (S u.low), .int .i64 u.addr, .int .u64 u.gen, .int .u32 u.sum] 50)).alloc (.cells #[.string (S u.low), .int .i64 u.addr, .int .u64 u.gen, .int .u32 u.sum] 50)) from by go_grown))
        go_wp2_with (at_builtin; go_must (refine wpList_append_own_at _ rfl (.tmp 49) (.tmp 51) 32 rfl W.heap.size 50 i0 (.agg #[.string ByteArray.empty, .int .i64 0, .int .u64 0, .int .u32 0]) 4 40 Try.underlying32 hi iz0 iz1 iz2 rfl (by decide) _ o.length _ rfl HT2.out.own1 ⟨wr.heap.size + 1, 0, none⟩ 1 1 [.string (S u.low), .int .i64 u.addr, .int .u64 u.gen, .int .u32 u.sum] rfl rfl (cell_four_at _ (wr.heap.size + 1) (by simp) _ _ _ _ _) (kid_oneCell _ _ _ _) (by unfold maxLen; omega) (by omega) HT2.out.le ?_; intro vz wz hownwz hgrowwz hzz hbz; have zc := (HT2.out.grown hgrowwz).1; have zf := ((HT2.out.grown hgrowwz).2 0).trans ef0; obtain ⟨gz, cz, ez⟩ := own_form hownwz; subst ez))
        go_wp2_with fail
        exact ⟨⟨j + 1, o ++ [u], p, _, _, by go_num, by omega, Lib.hid ⟨HO1.out.symm, HO2.out.symm⟩, by rw [cellsC_snoc, List.length_append, List.length_singleton]; exact HT2.out.app hownwz hgrowwz hbz⟩, by simp [intOf]; omega⟩
      · have hjm1 : ¬ (j : Int) < (m : Int) := by omega
        by_cases hje : j = m
        · subst hje
          have HO1 := Lib.hid (show (cs.take (j + 1)).take j = o by rw [(drop_at_succ cs j hjl).1, hop.out.1])
          have HO2 := Lib.hid (show headless ((cs.take (j + 1)).drop j) = p ++ [{ cs[j] with low := [] }] by rw [(drop_at_succ cs j hjl).2, hop.out.2])
          clear n0 n1 t0 hjm hjm1
          generalize cs[j] = u at *
          have HT2 := Lib.hid (HT.out.on (show Below wr.heap.size wr ((wr.alloc (.cells #[.string ⟨#[]⟩, .int .i64 u.addr, .int .u64 u.gen, .int .u32 u.sum] 50)).alloc (.cells #[.string ⟨#[]⟩, .int .i64 u.addr, .int .u64 u.gen, .int .u32 u.sum] 50)) from by go_grown))
          go_wp2_with (at_builtin; go_must (refine wpList_append_own_at _ rfl (.tmp 59) (.tmp 61) 32 rfl W.heap.size 50 i0 (.agg #[.string ByteArray.empty, .int .i64 0, .int .u64 0, .int .u32 0]) 4 40 Try.underlying32 hi iz0 iz1 iz2 rfl (by decide) _ p.length _ rfl HT2.out.own2 ⟨wr.heap.size + 1, 0, none⟩ 1 1 [.string ⟨#[]⟩, .int .i64 u.addr, .int .u64 u.gen, .int .u32 u.sum] rfl rfl (cell_four_at _ (wr.heap.size + 1) (by simp) _ _ _ _ _) (kid_oneCell _ _ _ _) (by unfold maxLen; omega) (by omega) HT2.out.le ?_; intro vz wz hownwz hgrowwz hzz hbz; have zc := (HT2.out.symm.grown hgrowwz).1; have zf := ((HT2.out.symm.grown hgrowwz).2 0).trans ff0; obtain ⟨gz, cz, ez⟩ := own_form hownwz; subst ez))
          go_wp2_with fail
          exact ⟨⟨j + 1, o, p ++ [{ u with low := [] }], _, _, by go_num, by omega, Lib.hid ⟨HO1.out.symm, HO2.out.symm⟩, by rw [cellsC_snoc, List.length_append, List.length_singleton]; exact (HT2.out.symm.app hownwz hgrowwz hbz).symm⟩, by simp [intOf]; omega⟩
        · have hje1 : ((j : Int) == (m : Int)) = false := by simp; omega
          have HO1 := Lib.hid (show (cs.take (j + 1)).take m = o by rw [(drop_over_succ cs j m hjl (by omega)).1, hop.out.1])
          have HO2 := Lib.hid (show headless ((cs.take (j + 1)).drop m) = p ++ [cs[j]] by rw [(drop_over_succ cs j m hjl (by omega)).2, hop.out.2])
          clear n0 n1 t0 hjm
          generalize cs[j] = u at *
          have HT2 := Lib.hid (HT.out.on (show Below wr.heap.size wr ((wr.alloc (.cells #[.string (S u.low), .int .i64 u.addr, .int .u64 u.gen, .int .u32 u.sum] 50)).alloc (.cells #[.string (S u.low), .int .i64 u.addr, .int .u64 u.gen, .int .u32 u.sum] 50)) from by go_grown))
          go_wp2_with (at_builtin; go_must (refine wpList_append_own_at _ rfl (.tmp 59) (.tmp 61) 32 rfl W.heap.size 50 i0 (.agg #[.string ByteArray.empty, .int .i64 0, .int .u64 0, .int .u32 0]) 4 40 Try.underlying32 hi iz0 iz1 iz2 rfl (by decide) _ p.length _ rfl HT2.out.own2 ⟨wr.heap.size + 1, 0, none⟩ 1 1 [.string (S u.low), .int .i64 u.addr, .int .u64 u.gen, .int .u32 u.sum] rfl rfl (cell_four_at _ (wr.heap.size + 1) (by simp) _ _ _ _ _) (kid_oneCell _ _ _ _) (by unfold maxLen; omega) (by omega) HT2.out.le ?_; intro vz wz hownwz hgrowwz hzz hbz; have zc := (HT2.out.symm.grown hgrowwz).1; have zf := ((HT2.out.symm.grown hgrowwz).2 0).trans ff0; obtain ⟨gz, cz, ez⟩ := own_form hownwz; subst ez))
          go_wp2_with fail
          exact ⟨⟨j + 1, o, p ++ [u], _, _, by go_num, by omega, Lib.hid ⟨HO1.out.symm, HO2.out.symm⟩, by rw [cellsC_snoc, List.length_append, List.length_singleton]; exact (HT2.out.symm.app hownwz hgrowwz hbz).symm⟩, by simp [intOf]; omega⟩
    · obtain rfl : j = cs.length := by omega
      have hoe := hop.out.1
      have hpe := hop.out.2
      rw [List.take_length] at hoe hpe
      obtain ⟨o1, ho1⟩ : ∃ o1, o1 = o := ⟨_, rfl⟩
      subst ho1
      obtain ⟨p1, hp1⟩ : ∃ p1, p1 = p := ⟨_, rfl⟩
      subst hp1
      have HOE := Lib.hid hoe
      have HPE := Lib.hid hpe
      clear hoe hpe hop
      obtain ⟨w1, hw1⟩ : ∃ w1, w1 = wr := ⟨_, rfl⟩
      subst hw1
      have SC1 := Lib.hid (slC_row HT.out.own1).2
      have SC2 := Lib.hid (slC_row HT.out.own2).2
      have E1 := (HT.out.old (w.heap.size + 1 + 1 + 1) 1 (by omega) (by omega) (by omega)).trans e1
      have F1 := (HT.out.old (w.heap.size + 1 + 1 + 1 + 1) 1 (by omega) (by omega) (by omega)).trans f1
      have C0 := (HT.out.old (w.heap.size + 1) 0 (by omega) (by omega) (by omega)).trans c0
      have C1 := (HT.out.old (w.heap.size + 1) 1 (by omega) (by omega) (by omega)).trans c1
      have D0 := (HT.out.old (w.heap.size + 1 + 1) 0 (by omega) (by omega) (by omega)).trans d0
      have D1 := (HT.out.old (w.heap.size + 1 + 1) 1 (by omega) (by omega) (by omega)).trans d1
      have CF0 := (HT.out.frz (w.heap.size + 1) 0 (by omega)).trans cf0
      have CF1 := (HT.out.frz (w.heap.size + 1) 1 (by omega)).trans cf1
      have DF0 := (HT.out.frz (w.heap.size + 1 + 1) 0 (by omega)).trans df0
      have DF1 := (HT.out.frz (w.heap.size + 1 + 1) 1 (by omega)).trans df1
      have gp1 := (HT.out.frz (w.heap.size + 1 + 1 + 1) 1 (by omega)).trans ef1
      have gq1 := (HT.out.frz (w.heap.size + 1 + 1 + 1 + 1) 1 (by omega)).trans ff1
      have HB1 := Lib.hid HT.out.below
      have hW1 := HT.out.le
      clear HT n0 n1 c0 c1 d0 d1 e0 e1 f0 f1 cf0 cf1 df0 df1 ef0 ef1 ff0 ff1 t0
      go_wp2_with fail
      go_loopw [12] (fun i wr => ∃ (j : Nat) (o p : List Upd) (A M : Value), i = .int .i64 j ∧ j ≤ us.length ∧ Hid (o = (us.take j).filter F ∧ p = (us.take j).filter G) ∧ Hid (Hv w.heap.size w w1 (w.heap.size + 1 + 1 + 1) (w.heap.size + 1 + 1 + 1 + 1) 1 113 wr A M o.length p.length (cellsU o) (cellsU p))) (fun i _ => us.length - (intOf i).toNat)
      case atStart => exact ⟨0, [], [], .slice none 0 0, .slice none 0 0, rfl, Nat.zero_le _, Lib.hid ⟨rfl, rfl⟩, Lib.hid ⟨World.ownsRow_nil _ _ _ _, World.ownsRow_nil _ _ _ _, fun k e => by simp [Value.ownBlock] at e, Nat.le_refl _, E1, F1, fun b o' _ _ _ => rfl, fun b o' _ => rfl, HB1.out, by omega, by omega, by omega, by omega, by omega⟩⟩
      case round =>
        obtain ⟨j, o, p, A, M, rfl, hj', hop, HT⟩ := hrel
        have hj0' : (0 : Int) ≤ (j : Int) := Int.natCast_nonneg _
        obtain ⟨ow, od, eo⟩ := own_form HT.out.own1
        subst eo
        obtain ⟨pw, pd, ep⟩ := own_form HT.out.own2
        subst ep
        have hol' : o.length ≤ us.length := by rw [hop.out.1]; exact filter_le3 F us j
        have hpl' : p.length ≤ us.length := by rw [hop.out.2]; exact filter_le3 G us j
        have M1 := (HT.out.old w.heap.size 1 (by omega) (by omega) (by omega)).trans N1
        obtain ⟨hz5, hz6⟩ := HT.out.lt
        have K1 := HT.out.cp
        have L1 := HT.out.cq
        by_cases hjl : j < us.length
        · have hj1 : (j : Int) < (us.length : Int) := by omega
          obtain ⟨bx, offx, rfl, hb, q0, q1, q2, q3⟩ := (HU.out.kept HT.out.below (Nat.le_refl _)).cells4 j hjl
          have HP1 := Lib.hid (filter_take3 F us j hjl)
          have HP2 := Lib.hid (filter_take3 G us j hjl)
          have HFx := HF.out us[j]
          have HGx := HG.out us[j]
          clear N0 N1 E0 F0 C0 C1 D0 D1 CF0 CF1 DF0 DF1 E1 F1
          generalize us[j] = u at *
          cases hbl : bl u.key low with
          | true =>
            have hbl' : Op.bytesLess u.key low = true := hbl
            have hFu : F u = true := HFx.trans hbl
            have hGu : G u = false := by rw [HGx, hFu]; rfl
            have HO1 := Lib.hid (show (us.take (j + 1)).filter F = o ++ [u] by rw [HP1.out, if_pos hFu, hop.out.1])
            have HO2 := Lib.hid (show (us.take (j + 1)).filter G = p by rw [HP2.out, if_neg (by rw [hGu]; simp), hop.out.2])
            clear hFu hGu HGx HFx HP1 HP2 hbl
            go_wp2_with fail
            have HT2 := Lib.hid (HT.out.on (below_drew' ((Below.refl wr.heap.size wr).alloc (Nat.le_refl _) (.cells #[.int .u8 u.kind, .string (S u.key), .string (S u.val), .int .u64 u.delta] 113))))
            go_region_law (first | (refine step_append_own (by rfl) _ _ 33 (by rfl) w1.heap.size 113 j0 (.agg #[.int .u8 0, .string ByteArray.empty, .string ByteArray.empty, .int .u64 0]) 4 48 Try.underlying33 hji jz0 jz1 jz2 rfl (by decide) _ o.length _ (by rfl) HT2.out.own1 ⟨wr.heap.size, 0, none⟩ 1 1 [.int .u8 u.kind, .string (S u.key), .string (S u.val), .int .u64 u.delta] (by rfl) (by rfl) ((FourAt.new _ u 113 wr.heap.size rfl).drew).news (four_oneCell _ _ _ _) (by unfold maxLen; omega) (by omega) HT2.out.le ?_; intro vz wz hownwz hgrowwz hbz; have zc := (HT2.out.grown hgrowwz).1; have zf := ((HT2.out.grown hgrowwz).2 1).trans gp1; obtain ⟨gz, cz, ez⟩ := own_form hownwz; subst ez))
            all_goals
              go_wp2_with fail
              exact ⟨⟨j + 1, o ++ [u], p, _, _, by go_num, by omega, Lib.hid ⟨HO1.out.symm, HO2.out.symm⟩, Lib.hid (by rw [cellsU_snoc, List.length_append, List.length_singleton]; exact HT2.out.app hownwz hgrowwz hbz)⟩, by simp [intOf]; omega⟩
          | false =>
            have hbl' : Op.bytesLess u.key low = false := hbl
            have hFu : F u = false := HFx.trans hbl
            have hGu : G u = true := by rw [HGx, hFu]; rfl
            have HO1 := Lib.hid (show (us.take (j + 1)).filter F = o by rw [HP1.out, if_neg (by rw [hFu]; simp), hop.out.1])
            have HO2 := Lib.hid (show (us.take (j + 1)).filter G = p ++ [u] by rw [HP2.out, if_pos hGu, hop.out.2])
            clear hFu hGu HGx HFx HP1 HP2 hbl
            go_wp2_with fail
            have HT2 := Lib.hid (HT.out.symm.on (below_drew' ((Below.refl wr.heap.size wr).alloc (Nat.le_refl _) (.cells #[.int .u8 u.kind, .string (S u.key), .string (S u.val), .int .u64 u.delta] 113))))
            go_region_law (first | (refine step_append_own (by rfl) _ _ 33 (by rfl) w1.heap.size 113 j0 (.agg #[.int .u8 0, .string ByteArray.empty, .string ByteArray.empty, .int .u64 0]) 4 48 Try.underlying33 hji jz0 jz1 jz2 rfl (by decide) _ p.length _ (by rfl) HT2.out.own1 ⟨wr.heap.size, 0, none⟩ 1 1 [.int .u8 u.kind, .string (S u.key), .string (S u.val), .int .u64 u.delta] (by rfl) (by rfl) ((FourAt.new _ u 113 wr.heap.size rfl).drew).news (four_oneCell _ _ _ _) (by unfold maxLen; omega) (by omega) HT2.out.le ?_; intro vz wz hownwz hgrowwz hbz; have zc := (HT2.out.grown hgrowwz).1; have zf := ((HT2.out.grown hgrowwz).2 1).trans gq1; obtain ⟨gz, cz, ez⟩ := own_form hownwz; subst ez))
            all_goals
              go_wp2_with fail
              exact ⟨⟨j + 1, o, p ++ [u], _, _, by go_num, by omega, Lib.hid ⟨HO1.out.symm, HO2.out.symm⟩, Lib.hid (by rw [cellsU_snoc, List.length_append, List.length_singleton]; exact (HT2.out.app hownwz hgrowwz hbz).symm)⟩, by simp [intOf]; omega⟩
        · obtain rfl : j = us.length := by omega
          have h1 := hop.out.1
          have h2 := hop.out.2
          rw [List.take_length] at h1 h2
          subst h1 h2
          have R0 := (HT.out.old (w.heap.size + 1) 0 (by omega) (by omega) (by omega)).trans C0
          have R1 := (HT.out.old (w.heap.size + 1) 1 (by omega) (by omega) (by omega)).trans C1
          have T0 := (HT.out.old (w.heap.size + 1 + 1) 0 (by omega) (by omega) (by omega)).trans D0
          have T1 := (HT.out.old (w.heap.size + 1 + 1) 1 (by omega) (by omega) (by omega)).trans D1
          have K0 := (HT.out.old (w.heap.size + 1 + 1 + 1) 0 (by omega) (by omega) (by omega)).trans E0
          have L0 := (HT.out.old (w.heap.size + 1 + 1 + 1 + 1) 0 (by omega) (by omega) (by omega)).trans F0
          have RF0 := (HT.out.frz (w.heap.size + 1) 0 (by omega)).trans CF0
          have RF1 := (HT.out.frz (w.heap.size + 1) 1 (by omega)).trans CF1
          have TF0 := (HT.out.frz (w.heap.size + 1 + 1) 0 (by omega)).trans DF0
          have TF1 := (HT.out.frz (w.heap.size + 1 + 1) 1 (by omega)).trans DF1
          have HN1 := NodeAt.mk' (SC1.out.old HT.out.le HT.out.old E1 F1) (slU_row HT.out.own1).2
          have HN2 := NodeAt.mk' (SC2.out.old HT.out.le HT.out.old E1 F1) (slU_row HT.out.own2).2
          have HNN := Lib.hid (And.intro HN1 HN2)
          have HBB := Lib.hid HT.out.below
          clear HN1 HN2 HT hop N0 N1 E0 F0 C0 C1 D0 D1 CF0 CF1 DF0 DF1 E1 F1 SC1 SC2
          go_wp2_with fail
          go_region
          all_goals
            go_wp2_with fail
            have t3 : (wr.setCell ⟨w.heap.size + 1, 0, none⟩ (.slice ov o1.length oc)).cell? ⟨w.heap.size + 1, 1, none⟩ = some (.slice none 0 0) := (World.cell?_setCell_other _ _ _ _ (addr_ne (Or.inr (by decide)))).trans R1
            have t4 : ((wr.setCell ⟨w.heap.size + 1, 0, none⟩ (.slice ov o1.length oc)).setCell ⟨w.heap.size + 1, 1, none⟩ (.slice ow (us.filter F).length od)).cell? ⟨w.heap.size + 1 + 1, 0, none⟩ = some (.slice none 0 0) := (World.cell?_setCell_other _ _ _ _ (addr_ne (Or.inl (by omega)))).trans ((World.cell?_setCell_other _ _ _ _ (addr_ne (Or.inl (by omega)))).trans T0)
            have t5 : (((wr.setCell ⟨w.heap.size + 1, 0, none⟩ (.slice ov o1.length oc)).setCell ⟨w.heap.size + 1, 1, none⟩ (.slice ow (us.filter F).length od)).setCell ⟨w.heap.size + 1 + 1, 0, none⟩ (.slice pv p1.length pc)).cell? ⟨w.heap.size + 1 + 1, 1, none⟩ = some (.slice none 0 0) := (World.cell?_setCell_other _ _ _ _ (addr_ne (Or.inr (by decide)))).trans ((World.cell?_setCell_other _ _ _ _ (addr_ne (Or.inl (by omega)))).trans ((World.cell?_setCell_other _ _ _ _ (addr_ne (Or.inl (by omega)))).trans T1))
            have hE := (((HBB.out.setCell (p := ⟨w.heap.size + 1, 0, none⟩) (by simp) (.slice ov o1.length oc)).setCell (p := ⟨w.heap.size + 1, 1, none⟩) (by simp) (.slice ow (us.filter F).length od)).setCell (p := ⟨w.heap.size + 1 + 1, 0, none⟩) (by simp; omega) (.slice pv p1.length pc)).setCell (p := ⟨w.heap.size + 1 + 1, 1, none⟩) (by simp; omega) (.slice pw (us.filter G).length pd)
            have hA := (((HNN.out.1.setAt R0 (.slice ov o1.length oc)).setAt t3 (.slice ow (us.filter F).length od)).setAt t4 (.slice pv p1.length pc)).setAt t5 (.slice pw (us.filter G).length pd)
            have hM := (((HNN.out.2.setAt R0 (.slice ov o1.length oc)).setAt t3 (.slice ow (us.filter F).length od)).setAt t4 (.slice pv p1.length pc)).setAt t5 (.slice pw (us.filter G).length pd)
            refine bodyPost_ret (v := .tuple #[.agg #[(.slice ov o1.length oc), (.slice ow (us.filter F).length od)], .agg #[(.slice pv p1.length pc), (.slice pw (us.filter G).length pd)], .string (S low), .bool true]) ?_ rfl ⟨⟨.agg #[(.slice ov o1.length oc), (.slice ow (us.filter F).length od)], .agg #[(.slice pv p1.length pc), (.slice pw (us.filter G).length pd)], by rw [HLW.out], by rw [← HOE.out]; exact hA.kept (below_drew' (Below.refl _ _)) (Nat.le_refl _), by rw [← HPE.out]; exact hM.kept (below_drew' (Below.refl _ _)) (Nat.le_refl _)⟩, below_drew' hE⟩
            simp [results, Try.results37, go_sem, R0, R1, T0, T1]

end Go.Proofs.Ytlmlmkeomlehmaa
