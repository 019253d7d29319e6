/-
  What laws 17's of and tame hold while they make nodes.
-/
import Derived.Test.YtlmlmkeomlehmaaNdc
import Derived.Test.YtlmlmkeomlehmaaOfb
namespace Go.Proofs.Ytlmlmkeomlehmaa
open Go.RowKit
attribute [local go_sem ↓] Go.wp_at_zero Go.wp_at_succ

theorem own_low {w : World} {B b o k n : Nat} {E : TypeId} {v : Value} {xs : List Value} (h : w.ownsRow B E k v n xs) (hb : b < B) (u : Value) : (w.setCell ⟨b, o, none⟩ u).ownsRow B E k v n xs :=
  ownsRow_setCell_other (a := ⟨b, o, none⟩) h (fun e => by have h2 := (h.lt _ e).1; dsimp only at h2; omega) _
/-- Four boxes: two results, two nodes. -/
structure QC (w0 w : World) (h : Nat) (s1 s2 s3 s4 : Value) : Prop where
  rc : ∀ b, (b = h ∨ b = h + 1) → w.cell? ⟨b, 0, none⟩ = some (.slice none 0 0) ∧ w.cell? ⟨b, 1, none⟩ = some (.slice none 0 0)
  n0 : w.cell? ⟨h + 1 + 1, 0, none⟩ = some s1
  n1 : w.cell? ⟨h + 1 + 1, 1, none⟩ = some s2
  x0 : w.cell? ⟨h + 1 + 1 + 1, 0, none⟩ = some s3
  x1 : w.cell? ⟨h + 1 + 1 + 1, 1, none⟩ = some s4
  fz : ∀ b o, h ≤ b → b < h + 4 → w.frozen? ⟨b, o, none⟩ = false
  below : Below h w0 w
  lt : h + 4 ≤ w.heap.size
section
variable {w0 w w' : World} {h : Nat} {s1 s2 s3 s4 : Value}
theorem QC.grown (H : QC w0 w h s1 s2 s3 s4) {r : Option Nat} (hg : w.grownBy w' r) (hr : ∀ k, r = some k → h + 4 ≤ k) : QC w0 w' h s1 s2 s3 s4 := by
  have hl := H.lt
  have ne : ∀ b, b < h + 4 → some b ≠ r := fun b hb e => by have := hr b e.symm; omega
  refine ⟨fun b hb => ?_, hg.cell H.n0 (ne (h + 1 + 1) (by omega)), hg.cell H.n1 (ne (h + 1 + 1) (by omega)), hg.cell H.x0 (ne (h + 1 + 1 + 1) (by omega)), hg.cell H.x1 (ne (h + 1 + 1 + 1) (by omega)), fun b o h1 h2 => ?_, below_grown H.below hg (fun k e => by have := hr k e; omega) (by omega), by have := hg.size; omega⟩
  · obtain ⟨h1, h2⟩ := H.rc b hb
    exact ⟨hg.cell h1 (ne b (by omega)), hg.cell h2 (ne b (by omega))⟩
  · exact (World.frozen?_of_block (hg.block b (by omega) (ne _ h2))).trans (H.fz b o h1 h2)
theorem QC.on (H : QC w0 w h s1 s2 s3 s4) (hb : Below w.heap.size w w') : QC w0 w' h s1 s2 s3 s4 := H.grown (r := none) (grown_of_below hb) (fun k e => by cases e)
theorem QC.set1 (H : QC w0 w h s1 s2 s3 s4) (v : Value) : QC w0 (w.setCell ⟨h + 1 + 1, 0, none⟩ v) h v s2 s3 s4 := by
  refine ⟨fun b hb => ?_, World.cell?_setCell_same _ _ _ H.n0, ?_, ?_, ?_, fun b o h1 h2 => ?_, H.below.setCell (p := ⟨h + 1 + 1, 0, none⟩) (by show h ≤ h + 1 + 1; omega) _, by rw [World.size_setCell]; exact H.lt⟩
  · rw [World.cell?_setCell_other _ _ _ _ (addr_ne (by omega)), World.cell?_setCell_other _ _ _ _ (addr_ne (by omega))]; exact H.rc b hb
  · rw [World.cell?_setCell_other _ _ _ _ (addr_ne (by omega))]; exact H.n1
  · rw [World.cell?_setCell_other _ _ _ _ (addr_ne (by omega))]; exact H.x0
  · rw [World.cell?_setCell_other _ _ _ _ (addr_ne (by omega))]; exact H.x1
  · rw [World.frozen?_setCell]; exact H.fz b o h1 h2
theorem QC.set2 (H : QC w0 w h s1 s2 s3 s4) (v : Value) : QC w0 (w.setCell ⟨h + 1 + 1, 1, none⟩ v) h s1 v s3 s4 := by
  refine ⟨fun b hb => ?_, ?_, World.cell?_setCell_same _ _ _ H.n1, ?_, ?_, fun b o h1 h2 => ?_, H.below.setCell (p := ⟨h + 1 + 1, 1, none⟩) (by show h ≤ h + 1 + 1; omega) _, by rw [World.size_setCell]; exact H.lt⟩
  · rw [World.cell?_setCell_other _ _ _ _ (addr_ne (by omega)), World.cell?_setCell_other _ _ _ _ (addr_ne (by omega))]; exact H.rc b hb
  · rw [World.cell?_setCell_other _ _ _ _ (addr_ne (by omega))]; exact H.n0
  · rw [World.cell?_setCell_other _ _ _ _ (addr_ne (by omega))]; exact H.x0
  · rw [World.cell?_setCell_other _ _ _ _ (addr_ne (by omega))]; exact H.x1
  · rw [World.frozen?_setCell]; exact H.fz b o h1 h2
theorem QC.set3 (H : QC w0 w h s1 s2 s3 s4) (v : Value) : QC w0 (w.setCell ⟨h + 1 + 1 + 1, 0, none⟩ v) h s1 s2 v s4 := by
  refine ⟨fun b hb => ?_, ?_, ?_, World.cell?_setCell_same _ _ _ H.x0, ?_, fun b o h1 h2 => ?_, H.below.setCell (p := ⟨h + 1 + 1 + 1, 0, none⟩) (by show h ≤ h + 1 + 1 + 1; omega) _, by rw [World.size_setCell]; exact H.lt⟩
  · rw [World.cell?_setCell_other _ _ _ _ (addr_ne (by omega)), World.cell?_setCell_other _ _ _ _ (addr_ne (by omega))]; exact H.rc b hb
  · rw [World.cell?_setCell_other _ _ _ _ (addr_ne (by omega))]; exact H.n0
  · rw [World.cell?_setCell_other _ _ _ _ (addr_ne (by omega))]; exact H.n1
  · rw [World.cell?_setCell_other _ _ _ _ (addr_ne (by omega))]; exact H.x1
  · rw [World.frozen?_setCell]; exact H.fz b o h1 h2
theorem QC.set4 (H : QC w0 w h s1 s2 s3 s4) (v : Value) : QC w0 (w.setCell ⟨h + 1 + 1 + 1, 1, none⟩ v) h s1 s2 s3 v := by
  refine ⟨fun b hb => ?_, ?_, ?_, ?_, World.cell?_setCell_same _ _ _ H.x1, fun b o h1 h2 => ?_, H.below.setCell (p := ⟨h + 1 + 1 + 1, 1, none⟩) (by show h ≤ h + 1 + 1 + 1; omega) _, by rw [World.size_setCell]; exact H.lt⟩
  · rw [World.cell?_setCell_other _ _ _ _ (addr_ne (by omega)), World.cell?_setCell_other _ _ _ _ (addr_ne (by omega))]; exact H.rc b hb
  · rw [World.cell?_setCell_other _ _ _ _ (addr_ne (by omega))]; exact H.n0
  · rw [World.cell?_setCell_other _ _ _ _ (addr_ne (by omega))]; exact H.n1
  · rw [World.cell?_setCell_other _ _ _ _ (addr_ne (by omega))]; exact H.x0
  · rw [World.frozen?_setCell]; exact H.fz b o h1 h2
end
theorem QC.start (w : World) : QC w ((((w.alloc (.cells #[.slice none 0 0, .slice none 0 0] 31)).alloc (.cells #[.slice none 0 0, .slice none 0 0] 35)).alloc (.cells #[.slice none 0 0, .slice none 0 0] 31)).alloc (.cells #[.slice none 0 0, .slice none 0 0] 35)) w.heap.size (.slice none 0 0) (.slice none 0 0) (.slice none 0 0) (.slice none 0 0) := by
  have c : ∀ (W : World) (t : TypeId) (b : Nat), W.heap.size = b → ∀ o, o < 2 → (W.alloc (.cells #[.slice none 0 0, .slice none 0 0] t)).cell? ⟨b, o, none⟩ = some (.slice none 0 0) := fun W t b hb o ho => by
    subst hb
    rw [World.cell?_alloc_at _ _ _ _ rfl]
    match o, ho with
    | 0, _ => rfl
    | 1, _ => rfl
  have p : ∀ (W : World) (o : Obj) (a : Addr) (v : Value), W.cell? a = some v → (W.alloc o).cell? a = some v := fun W o a v h => cell_past o h
  refine ⟨fun b hb => ?_, p _ _ _ _ (c _ _ _ (by simp) 0 (by decide)), p _ _ _ _ (c _ _ _ (by simp) 1 (by decide)), c _ _ _ (by simp) 0 (by decide), c _ _ _ (by simp) 1 (by decide), fun b o h1 h2 => ?_, by go_grown, by simp⟩
  · rcases hb with rfl | rfl
    · exact ⟨p _ _ _ _ (p _ _ _ _ (p _ _ _ _ (c _ _ _ rfl 0 (by decide)))), p _ _ _ _ (p _ _ _ _ (p _ _ _ _ (c _ _ _ rfl 1 (by decide))))⟩
    · exact ⟨p _ _ _ _ (p _ _ _ _ (c _ _ _ (by simp) 0 (by decide))), p _ _ _ _ (p _ _ _ _ (c _ _ _ (by simp) 1 (by decide)))⟩
  · have hb : b = w.heap.size ∨ b = w.heap.size + 1 ∨ b = w.heap.size + 1 + 1 ∨ b = w.heap.size + 1 + 1 + 1 := by omega
    rcases hb with rfl | rfl | rfl | rfl <;> simp [go_sem]

end Go.Proofs.Ytlmlmkeomlehmaa
