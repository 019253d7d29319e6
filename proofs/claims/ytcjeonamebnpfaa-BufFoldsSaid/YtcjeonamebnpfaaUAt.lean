/-
  An update in a box.
-/
import Derived.Test.YtcjeonamebnpfaaUse
namespace Go.Proofs.Ytcjeonamebnpfaa
open Go.RowKit

/-- An update in a box. -/
structure UAt (w : World) (g : Nat) (x : Upd) : Prop where
  c0 : w.cell? ⟨g, 0, none⟩ = some (.int .u8 x.kind)
  c1 : w.cell? ⟨g, 1, none⟩ = some (.string (S x.key))
  c2 : w.cell? ⟨g, 2, none⟩ = some (.string (S x.val))
  c3 : w.cell? ⟨g, 3, none⟩ = some (.int .u64 x.delta)
  free : ∀ i, w.frozen? ⟨g, i, none⟩ = false
  lt : g < w.heap.size
theorem UAt.new (w : World) (t : TypeId) : UAt (w.alloc (.cells #[.int .u8 0, .string ByteArray.empty, .string ByteArray.empty, .int .u64 0] t)) w.heap.size ⟨0, [], [], 0⟩ :=
  ⟨by simp, by simp; rfl, by simp; rfl, by simp, fun i => by simp, by simp⟩
theorem UAt.on {w w' : World} {g B : Nat} {x : Upd} (h : UAt w g x) (hb : Below B w w') (hB : g < B) : UAt w' g x :=
  ⟨(hb.cell (p := ⟨g, 0, none⟩) hB).trans h.c0, (hb.cell (p := ⟨g, 1, none⟩) hB).trans h.c1, (hb.cell (p := ⟨g, 2, none⟩) hB).trans h.c2, (hb.cell (p := ⟨g, 3, none⟩) hB).trans h.c3, fun i => (hb.frozen (p := ⟨g, i, none⟩) hB).trans (h.free i), Nat.lt_of_lt_of_le h.lt hb.size⟩
theorem UAt.far {w : World} {g : Nat} {x : Upd} (h : UAt w g x) {p : Addr} (hp : p.block ≠ g) (v : Value) : UAt (w.setCell p v) g x :=
  ⟨(World.cell?_setCell_far w p _ v hp).trans h.c0, (World.cell?_setCell_far w p _ v hp).trans h.c1, (World.cell?_setCell_far w p _ v hp).trans h.c2, (World.cell?_setCell_far w p _ v hp).trans h.c3, fun i => by rw [World.frozen?_setCell]; exact h.free i, by rw [World.size_setCell]; exact h.lt⟩
theorem off_ne {g i j : Nat} (h : i ≠ j) : (⟨g, i, none⟩ : Addr) ≠ ⟨g, j, none⟩ := fun e => h (by injection e)
theorem UAt.setKey {w : World} {g : Nat} {x : Upd} (h : UAt w g x) (k : List UInt8) : UAt (w.setCell ⟨g, 1, none⟩ (.string (S k))) g ⟨x.kind, k, x.val, x.delta⟩ :=
  ⟨(World.cell?_setCell_other w _ _ _ (off_ne (by decide))).trans h.c0, World.cell?_setCell_same w _ _ h.c1, (World.cell?_setCell_other w _ _ _ (off_ne (by decide))).trans h.c2, (World.cell?_setCell_other w _ _ _ (off_ne (by decide))).trans h.c3, fun i => by rw [World.frozen?_setCell]; exact h.free i, by rw [World.size_setCell]; exact h.lt⟩
theorem UAt.setVal {w : World} {g : Nat} {x : Upd} (h : UAt w g x) (k : List UInt8) : UAt (w.setCell ⟨g, 2, none⟩ (.string (S k))) g ⟨x.kind, x.key, k, x.delta⟩ :=
  ⟨(World.cell?_setCell_other w _ _ _ (off_ne (by decide))).trans h.c0, (World.cell?_setCell_other w _ _ _ (off_ne (by decide))).trans h.c1, World.cell?_setCell_same w _ _ h.c2, (World.cell?_setCell_other w _ _ _ (off_ne (by decide))).trans h.c3, fun i => by rw [World.frozen?_setCell]; exact h.free i, by rw [World.size_setCell]; exact h.lt⟩
theorem UAt.setDelta {w : World} {g : Nat} {x : Upd} (h : UAt w g x) (d : Nat) : UAt (w.setCell ⟨g, 3, none⟩ (.int .u64 d)) g ⟨x.kind, x.key, x.val, d⟩ :=
  ⟨(World.cell?_setCell_other w _ _ _ (off_ne (by decide))).trans h.c0, (World.cell?_setCell_other w _ _ _ (off_ne (by decide))).trans h.c1, (World.cell?_setCell_other w _ _ _ (off_ne (by decide))).trans h.c2, World.cell?_setCell_same w _ _ h.c3, fun i => by rw [World.frozen?_setCell]; exact h.free i, by rw [World.size_setCell]; exact h.lt⟩
theorem UAt.of (w : World) (t : TypeId) (k : Nat) (key : List UInt8) : UAt (w.alloc (.cells #[.int .u8 k, .string (S key), .string ByteArray.empty, .int .u64 0] t)) w.heap.size ⟨k, key, [], 0⟩ :=
  ⟨by simp, by simp, by simp; rfl, by simp, fun i => by simp, by simp⟩
theorem UAt.full (w : World) (g : Nat) (hg : w.heap.size = g) (x : Upd) (t : TypeId) : UAt (w.alloc (.cells #[.int .u8 x.kind, .string (S x.key), .string (S x.val), .int .u64 x.delta] t)) g x := by
  subst hg
  exact ⟨by simp, by simp, by simp, by simp, fun i => by simp, by simp⟩
theorem UAt.alloc {w : World} {g : Nat} {x : Upd} (h : UAt w g x) (o : Obj) : UAt (w.alloc o) g x := h.on ((Below.refl w.heap.size w).alloc (Nat.le_refl _) o) h.lt

end Go.Proofs.Ytcjeonamebnpfaa
