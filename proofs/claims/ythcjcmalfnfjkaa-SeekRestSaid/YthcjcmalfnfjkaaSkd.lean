/-
  The walk of Next, of what is told and of what isn't.
-/
import Derived.Test.YthcjcmalfnfjkaaSkc
namespace Go.Proofs.Ythcjcmalfnfjkaa
open Go.RowKit
set_option linter.unusedVariables false
attribute [local go_sem ↓] Go.wp_at_zero Go.wp_at_succ

/-- A cursor and its source, and which row the asks are in. -/
structure St (w : World) (B0 B1 p q : Nat) (va : Value) (L : List Ent) (fail : Int) (A : List Int) (C : CurS) : Prop where
  cu : CuAt w B0 B1 p q C
  sh : ShAt w B0 B1 q va L A fail
  le : B1 ≤ w.heap.size
theorem CuAt.on {w w' : World} {B0 B1 p q : Nat} {C : CurS} (h : CuAt w B0 B1 p q C) (hb : Below w.heap.size w w') : CuAt w' B0 B1 p q C := by
  obtain ⟨v4, h4, hl⟩ := h.c4
  exact ⟨kept_cell hb h.c0, kept_cell hb h.c1, kept_cell hb h.c2, kept_cell hb h.c3, ⟨v4, kept_cell hb h4, hl.on hb⟩, kept_cell hb h.c5, kept_frozen hb h.c1 h.f1, kept_frozen hb h4 h.f4, kept_frozen hb h.c5 h.f5, h.lt, h.ne, h.ge⟩
theorem St.on {w w' : World} {B0 B1 p q : Nat} {va : Value} {L : List Ent} {fail : Int} {A : List Int} {C : CurS} (h : St w B0 B1 p q va L fail A C) (hb : Below w.heap.size w w') : St w' B0 B1 p q va L fail A C :=
  ⟨h.cu.on hb, h.sh.on hb, Nat.le_trans h.le hb.size⟩
theorem row_kinds {w : World} {B b k n : Nat} {E E' : TypeId} {v : Value} {xs cur : List Value} (h : w.ownsRow B E k v n xs) (hr : RowIs w E' b cur) (hne : E ≠ E') : v.ownBlock ≠ some b := by
  intro e
  rcases ownsRow_open h with ⟨rfl, -, -⟩ | ⟨g, cap, cur', rfl, -, hr', -⟩
  · simp [Value.ownBlock] at e
  · simp only [Value.ownBlock, Option.some.injEq] at e
    subst e
    have := hr'.symm.trans hr
    simp at this
    exact hne this.2
theorem CuAt.other {w w' : World} {B0 B1 p q : Nat} {va : Value} {C : CurS} {A : List Int} (h : CuAt w B0 B1 p q C) (hc : Chg q q va w w') (ho : w.ownsRow B1 3 1 va A.length (intsV A)) (hq : q < B1) : CuAt w' B0 B1 p q C := by
  have hp : va.ownBlock ≠ some p := fun e => by have := (ho.lt p e).1; have := h.lt; omega
  have hbk := hc.block p (World.block_lt_of_cell? w _ h.c0) h.ne h.ne hp
  have hcell : ∀ o v, w.cell? ⟨p, o, none⟩ = some v → w'.cell? ⟨p, o, none⟩ = some v := fun o v h => (World.cell?_of_block hbk).trans h
  have hfz : ∀ o, w'.frozen? ⟨p, o, none⟩ = w.frozen? ⟨p, o, none⟩ := fun o => World.frozen?_of_block hbk
  obtain ⟨v4, h4, hl⟩ := h.c4
  refine ⟨hcell _ _ h.c0, hcell _ _ h.c1, hcell _ _ h.c2, hcell _ _ h.c3, ⟨v4, hcell _ _ h4, ?_⟩, hcell _ _ h.c5, (hfz 1).trans h.f1, (hfz 4).trans h.f4, (hfz 5).trans h.f5, h.lt, h.ne, h.ge⟩
  exact hl.keep fun b cur hb hr => hc.block b hr.lt (by omega) (by omega) (row_kinds ho hr (by decide))
theorem St.put {w : World} {B0 B1 p q : Nat} {va : Value} {L : List Ent} {fail : Int} {A : List Int} {C : CurS} (h : St w B0 B1 p q va L fail A C) {z o : Nat} (hz : B1 ≤ z) (hn : NotAt w p z) (hv : va.ownBlock ≠ some z) (u : Value) : St (w.setCell ⟨z, o, none⟩ u) B0 B1 p q va L fail A C := by
  have hp := h.cu.lt
  have hq := h.sh.lt
  have hle := h.sh.le
  obtain ⟨v4, h4, hl⟩ := h.cu.c4
  have oth : ∀ o', (w.setCell ⟨z, o, none⟩ u).cell? ⟨p, o', none⟩ = w.cell? ⟨p, o', none⟩ := fun o' => World.cell?_setCell_other _ _ _ _ (addr_ne (Or.inl (by omega)))
  refine ⟨⟨(oth 0).trans h.cu.c0, (oth 1).trans h.cu.c1, (oth 2).trans h.cu.c2, (oth 3).trans h.cu.c3, ⟨v4, (oth 4).trans h4, ?_⟩, (oth 5).trans h.cu.c5, ?_, ?_, ?_, hp, h.cu.ne, h.cu.ge⟩, h.sh.setAt (by omega) (by omega) hv u, by rw [World.size_setCell]; exact h.le⟩
  · obtain ⟨ao, c, rfl, g1, g2, g3⟩ := hl
    refine ⟨ao, c, rfl, g1, g2, ?_⟩
    rcases g3 with g3 | ⟨b, off, cur, rfl, g4, g5, g6⟩
    · exact Or.inl g3
    · by_cases hlen : 0 < C.left.length
      · have hbz := hn _ _ _ h4 hlen _ rfl
        exact Or.inr ⟨b, off, cur, rfl, g4, (Below.heap_setCell _ _ _ _ hbz).trans g5, g6⟩
      · exact Or.inl (List.length_eq_zero_iff.1 (by omega))
  · rw [World.frozen?_setCell]; exact h.cu.f1
  · rw [World.frozen?_setCell]; exact h.cu.f4
  · rw [World.frozen?_setCell]; exact h.cu.f5
theorem NotAt.setCell {w : World} {p z z' o : Nat} (h : NotAt w p z) (hz : z' ≠ p) (u : Value) : NotAt (w.setCell ⟨z', o, none⟩ u) p z := fun a n c hcell => by
  rw [World.cell?_setCell_other _ _ _ _ (addr_ne (Or.inl hz))] at hcell
  exact h a n c hcell
theorem St.notAt {w : World} {B0 B1 p q : Nat} {va : Value} {L : List Ent} {fail : Int} {A : List Int} {C : CurS} (h : St w B0 B1 p q va L fail A C) {z : Nat} (hz : w.heap.size ≤ z) : NotAt w p z := by
  intro a n c hcell hn ad had
  obtain ⟨v4, h4, hl⟩ := h.cu.c4
  rw [hcell] at h4
  injection h4 with h4
  subst h4
  obtain ⟨ao, c', e, g1, g2, g3⟩ := hl
  simp only [Value.slice.injEq] at e
  obtain ⟨rfl, e2, rfl⟩ := e
  rcases g3 with g3 | ⟨b, off, cur, e3, g4, g5, g6⟩
  · rw [e2, g3] at hn; simp at hn
  · rw [had] at e3
    injection e3 with e3
    have := g5.lt
    rw [e3]
    show b ≠ z
    omega
/-- fill, told by fillS. -/
def FillPost (w : World) (B0 B1 p q : Nat) (va : Value) (L : List Ent) (fail : Int) (R : Nat × List Int × CurS) (e : Ending) (w' : World) : Prop :=
  e = .returned (.int .i64 R.1) ∧ ∃ va', St w' B0 B1 p q va' L fail R.2.1 R.2.2 ∧ Chg p q va w w' ∧ (va'.ownBlock = va.ownBlock ∨ va'.ownBlock = some (w.heap.size + 1)) ∧ ∀ z, z < w.heap.size → NotAt w p z → NotAt w' p z
theorem fill_any (B0 B1 p q : Nat) (va : Value) (L : List Ent) (A : List Int) (fail : Int) (C : CurS) (w : World) (h : St w B0 B1 p q va L fail A C) (hA : A.length ≤ 1000000) (hL : L.length ≤ 1000) :
    Calls Try.prog 43 #[.pointer (some ⟨p, 0, none⟩)] w (FillPost w B0 B1 p q va L fail (fillS L fail A C)) := by
  obtain ⟨v4, h4, hv⟩ := h.cu.c4
  obtain ⟨ao, c, rfl, -⟩ := hv
  by_cases hl : C.left = []
  · cases ho : C.over with
    | true =>
      have e : fillS L fail A C = (0, A, C) := by unfold fillS; rw [if_pos (Or.inr ho)]
      rw [e]
      have h5 := h.cu.c5
      rw [ho] at h5
      rw [hl] at h4
      refine (fill_over p ao c w h4 h5).mono ?_
      rintro e w' ⟨rfl, rfl⟩
      exact ⟨rfl, va, h, Chg.refl _ _ _ _, Or.inl rfl, fun _ _ h => h⟩
    | false =>
      have hn : ¬ (C.left ≠ [] ∨ C.over = true) := by rw [ho]; simp [hl]
      by_cases hf : fail = (A.length : Int) + 1
      · have e : fillS L fail A C = (10, A ++ [(C.chunk : Int)], C) := by unfold fillS; rw [if_neg hn, if_pos hf]
        rw [e]
        refine (fill_bad B0 B1 p q va L A fail C w h.cu h.sh hf hl ho hA h.le).mono ?_
        rintro e w' ⟨rfl, va', h1, h2, h3⟩
        exact ⟨rfl, va', ⟨h.cu.other h2 h.sh.own h.sh.lt, h1, Nat.le_trans h.le h2.size⟩, h2.weak, h3, fun z _ hz a n c hcell hn => by
          rw [World.cell?_of_block (h2.block p (World.block_lt_of_cell? w _ h4) h.cu.ne h.cu.ne (fun e => by have := (h.sh.own.lt p e).1; have := h.cu.lt; omega))] at hcell
          exact hz a n c hcell hn⟩
      · have e : fillS L fail A C = (0, A ++ [(C.chunk : Int)], { C with left := scanL L C.place C.high C.chunk, over := decide ((scanL L C.place C.high C.chunk).length < C.chunk) }) := by unfold fillS; rw [if_neg hn, if_neg hf]
        rw [e]
        refine (fill_ok B0 B1 p q va L A fail C w h.cu h.sh hf hl ho hA hL h.le _ rfl _ rfl).mono ?_
        rintro e w' ⟨rfl, va', h1, h2, h3, h4, h5⟩
        exact ⟨rfl, va', ⟨h1, h2, Nat.le_trans h.le h3.size⟩, h3, h4, fun z hz _ => h5 z hz⟩
  · have e : fillS L fail A C = (0, A, C) := by unfold fillS; rw [if_pos (Or.inl hl)]
    rw [e]
    refine (fill_some p ao _ c w h4 (List.length_pos_iff.2 hl)).mono ?_
    rintro e w' ⟨rfl, rfl⟩
    exact ⟨rfl, va, h, Chg.refl _ _ _ _, Or.inl rfl, fun _ _ h => h⟩

end Go.Proofs.Ythcjcmalfnfjkaa
