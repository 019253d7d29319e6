/-
  Two rows of updates that grow side by side: the appends of one statement, in whatever order their operands are laid.
-/
import Derived.Test.YtcjeonamebnpfaaUse
import Derived.Deep.RegionHeld3
namespace Go.Proofs.Ytcjeonamebnpfaa
open Go.RowKit

/-- An update's four cells, at the head of a block. -/
structure FourAt (W : World) (g : Nat) (X : Upd) : Prop where
  c0 : W.cell? ⟨g, 0, none⟩ = some (.int .u8 X.kind)
  c1 : W.cell? ⟨g, 1, none⟩ = some (.string (S X.key))
  c2 : W.cell? ⟨g, 2, none⟩ = some (.string (S X.val))
  c3 : W.cell? ⟨g, 3, none⟩ = some (.int .u64 X.delta)
section
variable {W w' : World} {g : Nat} {X : Upd}
theorem FourAt.lt (h : FourAt W g X) : g < W.heap.size := World.block_lt_of_cell? W _ h.c0
theorem FourAt.new (W : World) (X : Upd) (t : TypeId) (g : Nat) (hg : W.heap.size = g) : FourAt (W.alloc (.cells #[.int .u8 X.kind, .string (S X.key), .string (S X.val), .int .u64 X.delta] t)) g X := by
  subst hg
  exact ⟨by simp, by simp, by simp, by simp⟩
theorem FourAt.alloc (h : FourAt W g X) (o : Obj) : FourAt (W.alloc o) g X := ⟨cell_past o h.c0, cell_past o h.c1, cell_past o h.c2, cell_past o h.c3⟩
theorem FourAt.drew (h : FourAt W g X) : FourAt W.drew g X := ⟨h.c0, h.c1, h.c2, h.c3⟩
theorem FourAt.four (h : FourAt W g X) : W.cell? ⟨g, 0, none⟩ = some (.int .u8 X.kind) ∧ W.cell? ⟨g, 1, none⟩ = some (.string (S X.key)) ∧ W.cell? ⟨g, 2, none⟩ = some (.string (S X.val)) ∧ W.cell? ⟨g, 3, none⟩ = some (.int .u64 X.delta) := ⟨h.c0, h.c1, h.c2, h.c3⟩
theorem FourAt.grown (h : FourAt W g X) {r : Option Nat} (hg : W.grownBy w' r) (hne : r ≠ some g) : FourAt w' g X :=
  ⟨hg.cell h.c0 (fun e => hne e.symm), hg.cell h.c1 (fun e => hne e.symm), hg.cell h.c2 (fun e => hne e.symm), hg.cell h.c3 (fun e => hne e.symm)⟩
theorem FourAt.news (h : FourAt W g X) : ∀ j u, [Value.int .u8 X.kind, .string (S X.key), .string (S X.val), .int .u64 X.delta][j]? = some u → W.cell? ((⟨g, 0, none⟩ : Addr).add j) = some u := by
  intro j u hj
  match j, hj with
  | 0, hj => simp only [List.getElem?_cons_zero, Option.some.injEq] at hj; subst hj; exact h.c0
  | 1, hj => simp only [List.getElem?_cons_succ, List.getElem?_cons_zero, Option.some.injEq] at hj; subst hj; exact h.c1
  | 2, hj => simp only [List.getElem?_cons_succ, List.getElem?_cons_zero, Option.some.injEq] at hj; subst hj; exact h.c2
  | 3, hj => simp only [List.getElem?_cons_succ, List.getElem?_cons_zero, Option.some.injEq] at hj; subst hj; exact h.c3
end

/-- Rows of unlike types are apart. -/
theorem own_kinds {w : World} {B B' : Nat} {E E' : TypeId} {k k' n n' : Nat} {v v' : Value} {xs xs' : List Value} (h : w.ownsRow B E k v n xs) (h' : w.ownsRow B' E' k' v' n' xs') (hne : E ≠ E') : v.ownBlock = none ∨ v.ownBlock ≠ v'.ownBlock := by
  rcases ownsRow_open h with ⟨rfl, -, -⟩ | ⟨g, cap, cur, rfl, -, hr, -⟩
  · exact Or.inl rfl
  · refine Or.inr fun e => ?_
    rcases ownsRow_open h' with ⟨rfl, -, -⟩ | ⟨g', cap', cur', rfl, -, hr', -⟩
    · simp [Value.ownBlock] at e
    · simp only [Value.ownBlock, Option.some.injEq] at e
      subst e
      have := hr.symm.trans hr'
      simp at this
      exact hne this.2
/-- Two rows of a call's own, of unlike kinds, and two boxes that none of them writes. -/
structure Two (base p q : Nat) (X : Upd) (E1 E2 : TypeId) (W0 W : World) (A M : Value) (na nm : Nat) (xa xm : List Value) : Prop where
  own1 : W.ownsRow base E1 4 A na xa
  own2 : W.ownsRow base E2 4 M nm xm
  below : Below base W0 W
  le : base ≤ W.heap.size
  atP : FourAt W p X
  atQ : FourAt W q X
  far1 : A.ownBlock ≠ some p ∧ A.ownBlock ≠ some q
  far2 : M.ownBlock ≠ some p ∧ M.ownBlock ≠ some q
section
variable {base p q : Nat} {X : Upd} {E1 E2 : TypeId} {W0 W : World} {A M : Value} {na nm : Nat} {xa xm : List Value}
theorem Two.alloc (h : Two base p q X E1 E2 W0 W A M na nm xa xm) (o : Obj) : Two base p q X E1 E2 W0 (W.alloc o) A M na nm xa xm :=
  ⟨h.own1.alloc o, h.own2.alloc o, h.below.alloc h.le o, by have := h.le; simp; omega, h.atP.alloc o, h.atQ.alloc o, h.far1, h.far2⟩
theorem Two.drew (h : Two base p q X E1 E2 W0 W A M na nm xa xm) : Two base p q X E1 E2 W0 W.drew A M na nm xa xm :=
  ⟨h.own1.drew, h.own2.drew, below_drew' h.below, h.le, h.atP.drew, h.atQ.drew, h.far1, h.far2⟩
theorem Two.held (h : Two base p q X E1 E2 W0 W A M na nm xa xm) : W.cell? ⟨p, 0, none⟩ = some (.int .u8 X.kind) ∧ W.cell? ⟨p, 1, none⟩ = some (.string (S X.key)) ∧ W.cell? ⟨p, 2, none⟩ = some (.string (S X.val)) ∧ W.cell? ⟨p, 3, none⟩ = some (.int .u64 X.delta) ∧
    W.cell? ⟨q, 0, none⟩ = some (.int .u8 X.kind) ∧ W.cell? ⟨q, 1, none⟩ = some (.string (S X.key)) ∧ W.cell? ⟨q, 2, none⟩ = some (.string (S X.val)) ∧ W.cell? ⟨q, 3, none⟩ = some (.int .u64 X.delta) :=
  ⟨h.atP.c0, h.atP.c1, h.atP.c2, h.atP.c3, h.atQ.c0, h.atQ.c1, h.atQ.c2, h.atQ.c3⟩
theorem Two.app1 (hE : E1 ≠ E2) (h : Two base p q X E1 E2 W0 W A M na nm xa xm) {v' : Value} {w' : World} {n' : Nat} {x' : List Value} (ho : w'.ownsRow base E1 4 v' n' x') (hg : W.grownBy w' A.ownBlock) (hb : v'.ownBlock = A.ownBlock ∨ v'.ownBlock = some W.heap.size) : Two base p q X E1 E2 W0 w' v' M n' nm x' xm := by
  have hp := h.atP.lt
  have hq := h.atQ.lt
  refine ⟨ho, h.own2.kept hg (own_kinds h.own2 h.own1 (fun e => hE e.symm)), below_grown h.below hg (fun k e => (h.own1.lt k e).1) h.le, Nat.le_trans h.le hg.size, h.atP.grown hg h.far1.1, h.atQ.grown hg h.far1.2, ⟨fun e => ?_, fun e => ?_⟩, h.far2⟩
  · rcases hb with hb | hb
    · exact h.far1.1 (hb.symm.trans e)
    · rw [hb] at e; injection e with e; omega
  · rcases hb with hb | hb
    · exact h.far1.2 (hb.symm.trans e)
    · rw [hb] at e; injection e with e; omega
theorem Two.app2 (hE : E1 ≠ E2) (h : Two base p q X E1 E2 W0 W A M na nm xa xm) {v' : Value} {w' : World} {n' : Nat} {x' : List Value} (ho : w'.ownsRow base E2 4 v' n' x') (hg : W.grownBy w' M.ownBlock) (hb : v'.ownBlock = M.ownBlock ∨ v'.ownBlock = some W.heap.size) : Two base p q X E1 E2 W0 w' A v' na n' xa x' := by
  have hp := h.atP.lt
  have hq := h.atQ.lt
  refine ⟨h.own1.kept hg (own_kinds h.own1 h.own2 hE), ho, below_grown h.below hg (fun k e => (h.own2.lt k e).1) h.le, Nat.le_trans h.le hg.size, h.atP.grown hg h.far2.1, h.atQ.grown hg h.far2.2, h.far1, ⟨fun e => ?_, fun e => ?_⟩⟩
  · rcases hb with hb | hb
    · exact h.far2.1 (hb.symm.trans e)
    · rw [hb] at e; injection e with e; omega
  · rcases hb with hb | hb
    · exact h.far2.2 (hb.symm.trans e)
    · rw [hb] at e; injection e with e; omega
end

end Go.Proofs.Ytcjeonamebnpfaa
