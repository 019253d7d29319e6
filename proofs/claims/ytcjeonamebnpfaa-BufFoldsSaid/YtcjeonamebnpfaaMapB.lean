/-
  A map of the call's own whose values are bools: what it tells of a key, and what a store makes of it.
-/
import Derived.Test.YtcjeonamebnpfaaKit
import Derived.Maps.OwnOps
import Derived.Maps.OwnSet
namespace Go.Proofs.Ytcjeonamebnpfaa
open Go.RowKit
open Go.Maps (Keyed)

section
variable {H : Type} {P : Program} {k : TypeId} {w : World} {b n : Nat} {D : DataW H}

theorem plainElem_bool_inv {e : TypeId} (he : P.underlying e = some .bool) {v : Value} {z : DataW H × List MemPlace} (h : plainElem P e v = some z) : ∃ x, v = .bool x ∧ z = (.lit (.bool x), []) := by
  unfold plainElem at h
  rw [he] at h
  cases v <;> simp at h
  subst h
  exact ⟨_, rfl, rfl⟩

theorem lookup_bool {t e : TypeId} (h : w.ownsMap P k (plainElem P e) b n D) (K : Keyed P k) (ht : P.underlying t = some (.map k e)) (he : P.underlying e = some .bool) (hz : (zeroValue e).run P w = .ok (.bool false) w)
    {key : Value} {kl : Lit} (hkey : keyOf P k key = some kl) : ∃ c, (Instr.lookup t (.map (some b)) key false).run P w = .ok (.bool c) w ∧ D.atKey kl (.lit (.bool false)) = .lit (.bool c) := by
  obtain ⟨v, ps, hrun, hv⟩ := h.lookup K ht hz (plainElem_bool he false) hkey
  obtain ⟨c, rfl, hc⟩ := plainElem_bool_inv he hv
  simp only [Prod.mk.injEq] at hc
  exact ⟨c, hrun, hc.1⟩
end

/-- A set of keys, as a map to bools: block b of w. -/
structure SetAt (P : Program) (k e : TypeId) (w : World) (b n : Nat) (has : Lit → Bool) : Prop where
  own : ∃ D : DataW Unit, w.ownsMap P k (plainElem P e) b n D ∧ ∀ kl, WideAt.IsKeyLit kl → D.atKey kl (.lit (.bool false)) = .lit (.bool (has kl))

section
variable {P : Program} {k e : TypeId} {w : World} {b n : Nat} {has : Lit → Bool}
theorem SetAt.made (P : Program) (k e : TypeId) (w : World) : SetAt P k e (w.alloc (.map #[] 0)) w.heap.size 0 (fun _ => false) :=
  ⟨.map [], World.ownsMap_made _ _ _ _, fun _ _ => rfl⟩
theorem SetAt.lt (h : SetAt P k e w b n has) : b < w.heap.size := by obtain ⟨D, h, _⟩ := h; exact h.lt
theorem SetAt.kept {w' : World} {row : Option Nat} (h : SetAt P k e w b n has) (hg : w.grownBy w' row) (hne : some b ≠ row) : SetAt P k e w' b n has := by
  obtain ⟨D, h, hs⟩ := h
  exact ⟨D, h.kept hg hne, hs⟩
theorem SetAt.below {w' : World} (h : SetAt P k e w b n has) (hb : Below w.heap.size w w') : SetAt P k e w' b n has :=
  h.kept (row := none) ⟨hb.os, hb.tape, hb.output, hb.size, fun i hi _ => hb.block i hi⟩ (by simp)
theorem SetAt.drewN (h : SetAt P k e w b n has) (m : Nat) : SetAt P k e (w.drewN m) b n has := by
  obtain ⟨D, h, hs⟩ := h
  exact ⟨D, h, hs⟩
theorem SetAt.look {t : TypeId} (h : SetAt P k e w b n has) (K : Keyed P k) (ht : P.underlying t = some (.map k e)) (he : P.underlying e = some .bool) (hz : (zeroValue e).run P w = .ok (.bool false) w)
    {key : Value} {kl : Lit} (hkey : keyOf P k key = some kl) (hkl : WideAt.IsKeyLit kl) : (Instr.lookup t (.map (some b)) key false).run P w = .ok (.bool (has kl)) w := by
  obtain ⟨D, h, hs⟩ := h
  obtain ⟨c, hrun, hat⟩ := lookup_bool h K ht he hz hkey
  rw [hs kl hkl] at hat
  simp only [DataW.lit.injEq, Lit.bool.injEq] at hat
  rw [hrun, hat]
theorem SetAt.put {t : TypeId} (h : SetAt P k e w b n has) (K : Keyed P k) (ht : P.underlying t = some (.map k e)) (he : P.underlying e = some .bool) (hn : n < maxLen)
    {key : Value} {kl : Lit} (hkey : keyOf P k key = some kl) (hkl : WideAt.IsKeyLit kl) (x : Bool) (has' : Lit → Bool) (h1 : has' kl = x) (h2 : ∀ l, l ≠ kl → has' l = has l) : ∃ w', (Instr.mapUpdate t (.map (some b)) key (.bool x)).run P w = .ok () w' ∧ SetAt P k e w' b (n + 1) has' ∧ w.grownBy w' (some b) := by
  obtain ⟨D, h, hs⟩ := h
  obtain ⟨w', hrun, r1, r2⟩ := h.update K ht hn hkey (plainElem_bool he x)
  refine ⟨w', hrun, ⟨_, r1, fun l hl => ?_⟩, r2⟩
  by_cases e : l = kl
  · subst e
    rw [h1, Maps.atKey_put_same h.isMap hkl]
  · rw [h2 l e, Maps.atKey_put_other e, hs l hl]
end

/-- 'm[k] = v' at the operation. -/
theorem wpList_put_set {P : Program} (w : World) {ops : Array Oper} {rest : List Oper} {o : Oper} {a : Act} {Q : Exit → Act → World → Prop}
    (hg : o.guard = none) (m x v : Operand) (t : TypeId) (hop : o.op = Op.mapUpdate t m x v)
    (k e : TypeId) (K : Keyed P k) (ht : P.underlying t = some (.map k e)) (he : P.underlying e = some .bool) (b n : Nat) (has : Lit → Bool)
    (hm : a.eval m = .map (some b)) (hown : SetAt P k e w b n has) (hn : n < maxLen) (key : Value) (y : Bool) (kl : Lit) (hx : a.eval x = key) (hv : a.eval v = .bool y) (hkey : keyOf P k key = some kl) (hkl : WideAt.IsKeyLit kl) (has' : Lit → Bool) (h1 : has' kl = y) (h2 : ∀ l, l ≠ kl → has' l = has l)
    (hK : ∀ w', SetAt P k e w' b (n + 1) has' → w.grownBy w' (some b) → wpList P ops Q rest (a.put o.dst undef) w') :
    wpList P ops Q (o :: rest) a w := by
  refine wpList_plain hg fun K' hK' => ?_
  obtain ⟨w', hrun, r1, r2⟩ := hown.put K ht he hn hkey hkl y has' h1 h2
  unfold Oper.wp
  simp [execOp, hop, hm, hx, hv, hrun, Result.andThen]
  exact hK' _ _ (hK w' r1 r2)

end Go.Proofs.Ytcjeonamebnpfaa
