/-
  A row of bytes that came of a text: what is stored in it, and the text that it makes.
-/
import Derived.Test.YtlmlmkeomlehmaaNpw
import Derived.Lib.ConvBytes
import Derived.Lib.SmallJoins
namespace Go.Proofs.Ytlmlmkeomlehmaa
open Go.RowKit

structure BytesI (w : World) (g : Nat) (xs : List Int) : Prop where
  lt : g < w.heap.size
  cell : ∀ (i : Nat) (h : i < xs.length), w.cell? ⟨g, i, none⟩ = some (.int .u8 xs[i])
  free : ∀ (i : Nat), i < xs.length → w.frozen? ⟨g, i, none⟩ = false

def asI (l : List UInt8) : List Int := l.map fun b => (b.toNat : Int)
theorem asI_len (l : List UInt8) : (asI l).length = l.length := by simp [asI]
theorem BytesI.new (w : World) (e : TypeId) (l : List UInt8) : BytesI (Lib.bytesWorld w e (S l)) w.heap.size (asI l) := by
  refine ⟨by rw [Lib.bytesWorld_size]; omega, fun i h => ?_, fun i h => ?_⟩
  · rw [asI_len] at h
    rw [Lib.bytesWorld_cell w e (S l) i (by rw [S_size]; exact h), S_data]
    simp [asI, List.getD, h]
  · rw [asI_len] at h
    unfold World.frozen?
    rw [Lib.bytesWorld_at_new]
    have : l.length ≤ (Lib.bytesCells w e (S l)).size := by
      unfold Lib.bytesCells
      rw [Array.size_append, Array.size_map]
      have : (S l).data.size = l.length := S_size l
      omega
    simp; omega
theorem BytesI.kept {w w' : World} {g B : Nat} {xs : List Int} (h : BytesI w g xs) (hb : Below B w w') (hB : g < B) : BytesI w' g xs :=
  ⟨Nat.lt_of_lt_of_le h.lt hb.size, fun i hi => (hb.cell (p := ⟨g, i, none⟩) hB).trans (h.cell i hi), fun i hi => (hb.frozen (p := ⟨g, i, none⟩) hB).trans (h.free i hi)⟩
theorem BytesI.drew {w : World} {g : Nat} {xs : List Int} (h : BytesI w g xs) : BytesI w.drew g xs := ⟨h.lt, h.cell, h.free⟩
theorem BytesI.drewN {w : World} {g : Nat} {xs : List Int} (h : BytesI w g xs) (n : Nat) : BytesI (w.drewN n) g xs := h.kept (below_drewN (Below.refl (g + 1) w) n) (Nat.lt_succ_self g)
theorem BytesI.set {w : World} {g : Nat} {xs : List Int} (h : BytesI w g xs) (k : Nat) (v : Int) : BytesI (w.setCell ⟨g, k, none⟩ (.int .u8 v)) g (xs.set k v) := by
  refine ⟨by rw [World.size_setCell]; exact h.lt, fun i hi => ?_, fun i hi => ?_⟩
  · rw [List.length_set] at hi
    by_cases e : k = i
    · subst e
      rw [List.getElem_set_self]
      exact World.cell?_setCell_same w _ _ (h.cell k hi)
    · rw [List.getElem_set_ne e, World.cell?_setCell_other w _ _ _ (fun e' => e (by injection e'))]
      exact h.cell i hi
  · rw [List.length_set] at hi
    rw [World.frozen?_setCell]
    exact h.free i hi
theorem BytesI.str {P : Program} (tB tS e : TypeId) (hs : P.underlying tB = some (.slice e)) (he : P.underlying e = some (.int .u8)) (hd : P.underlying tS = some .string) {w : World} {g : Nat} {xs : List Int} (h : BytesI w g xs) (n c : Nat) (hn : xs.length = n) :
    (convert tB tS (.slice (some ⟨g, 0, none⟩) n c)).run P w = .ok (.string (S (xs.map fun x => UInt8.ofNat x.toNat))) w := by
  have := run_convert_bytes_arg (P := P) w tB e hs he g 0 n c xs hn (fun i hi => by rw [Nat.zero_add, h.cell i (by omega), List.getD_eq_getElem?_getD, List.getElem?_eq_getElem (by omega)]; rfl) tS hd
  rw [this, strOfNums_S]

end Go.Proofs.Ytlmlmkeomlehmaa
