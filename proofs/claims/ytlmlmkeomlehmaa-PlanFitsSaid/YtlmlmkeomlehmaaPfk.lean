/-
  The walk of the key of a number (PlanFits' own function).
-/
import Derived.Test.YtlmlmkeomlehmaaPfp
import Derived.Test.YtlmlmkeomlehmaaPlb
import Derived.Test.YtlmlmkeomlehmaaRep
import Derived.Test.YtlmlmkeomlehmaaNdb
namespace Go.Proofs.Ytlmlmkeomlehmaa
open Go.RowKit

set_option maxRecDepth 100000 in
set_option maxHeartbeats 4000000 in
theorem keyF_any (f : UInt8) (p : Nat) (i : Nat) (w : World) (hp : w.cell? ⟨p, 0, none⟩ = some (.int .u8 f.toNat)) (hi : i < 200) :
    Calls Try.prog 45 #[.int .i64 i, .pointer (some ⟨p, 0, none⟩)] w fun e w' => e = .returned (.string (S (keyF f i))) ∧ Below w.heap.size w w' := by
  have hcv := fun w n c => run_str1 (P := Try.prog) 54 9 5 Try.underlying54 Try.underlying5 Try.underlying9 w n c
  have hR := fun w => repeat_any f 15 w (by omega)
  have hw1 : IntKind.i64.wrap ((i : Int) + 1) = (i : Int) + 1 := IntWalk.i64_in _ (by omega)
  have hw2 : IntKind.u8.wrap ((i : Int) + 1) = (i : Int) + 1 := by rw [IntKind.wrap_u8]; omega
  have ht : ((i : Int) + 1).toNat = i + 1 := by omega
  have HR := Lib.hid hR
  clear hR
  go_enter Try.func45, Try.ntmps45
  go_upto_region 1 with (fail)
  have hlt : p < w.heap.size := by
    rcases Nat.lt_or_ge p w.heap.size with h | h
    · exact h
    · have : w.heap[p]? = none := Array.getElem?_eq_none_iff.2 (by omega)
      simp [World.cell?, this] at hp
  have e1 : ∀ x, (w.alloc x).cell? ⟨p, 0, none⟩ = some (.int .u8 f.toNat) := fun x => (World.cell?_alloc_past _ _ _ hlt).trans hp
  have e2 : ∀ x y, ((w.alloc x).alloc y).cell? ⟨p, 0, none⟩ = some (.int .u8 f.toNat) := fun x y => (World.cell?_alloc_past _ _ _ (by simp; omega)).trans (e1 x)
  go_region_law (first | (go_simp; go_at_call 46; refine (thread (HR.out _) w.heap.size w (by go_grown) (by go_grown)).mono ?_; rintro e wx ⟨rfl, hX, hk, -, -, hz⟩))
  all_goals (go_wp2_with fail; go_ret; exact ⟨(by simp [keyF, List.replicate]; rfl), by go_grown⟩)

end Go.Proofs.Ytlmlmkeomlehmaa
