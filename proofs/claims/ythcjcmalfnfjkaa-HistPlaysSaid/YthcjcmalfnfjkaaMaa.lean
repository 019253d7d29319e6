/-
  slices.Sorted(maps.Keys(m)) at map[string]string, and maps.Clone.
-/
import Derived.Test.YthcjcmalfnfjkaaZa
import Derived.Shelf.SlIter.Nil
import Derived.Shelf.SortM.Plain
import Derived.Shelf.SortM.SortNone
import Derived.Ground.GgzProg
import Derived.Ground.SlgmProg
namespace Go.Proofs.Ythcjcmalfnfjkaa
open Go.RowKit Go.Maps Go.Sort Go.Shelf

def keysA_ren : Go.Shelf.Ren := ⟨fun | 7 => 41 | 10 => 52 | n => n, fun | 23 => 98 | 26 => 9 | 3 => 9 | 28 => 96 | 0 => 0 | 27 => 95 | 33 => 115 | 4 => 4 | n => n, fun | n => n⟩
theorem keysA : Go.Proofs.SlLaysZ.n7 Try.prog keysA_ren := {
  mixed := (by kernel_rfl),
  f7 := ⟨Try.f41.name, by decide, Try.func41.trans (congrArg some (by kernel_rfl))⟩,
  f10 := ⟨Try.f52.name, by decide, Try.func52.trans (congrArg some (by kernel_rfl))⟩,
  t0 := Try.underlying0,
  a0 := Try.isAgg0,
  z0 := Try.sizeOf0,
  v0 := Try.zeroValue0,
  t4 := Try.underlying4,
  a4 := Try.isAgg4,
  z4 := Try.sizeOf4,
  v4 := Try.zeroValue4,
  t23 := Try.underlying98,
  a23 := Try.isAgg98,
  z23 := Try.sizeOf98,
  v23 := Try.zeroValue98,
  t26 := Try.underlying9,
  a26 := Try.isAgg9,
  z26 := Try.sizeOf9,
  v26 := Try.zeroValue9,
  t27 := Try.underlying95,
  a27 := Try.isAgg95,
  z27 := Try.sizeOf95,
  v27 := Try.zeroValue95,
  t28 := Try.underlying96,
  a28 := Try.isAgg96,
  z28 := Try.sizeOf96,
  v28 := Try.zeroValue96,
  t33 := Try.underlying115,
  a33 := Try.isAgg115,
  z33 := Try.sizeOf115,
  v33 := Try.zeroValue115 }
def sortedA_ren : Go.Shelf.Ren := ⟨fun | 6 => 40 | 8 => 50 | 9 => 51 | 11 => 59 | 13 => 61 | 12 => 60 | 23 => 74 | 24 => 75 | 14 => 65 | 15 => 66 | 16 => 67 | 17 => 68 | 18 => 69 | 19 => 70 | 20 => 71 | 21 => 72 | 22 => 73 | 25 => 77 | 26 => 78 | 27 => 79 | 28 => 80 | 29 => 81 | 30 => 82 | 31 => 83 | n => n, fun | 26 => 9 | 28 => 96 | 24 => 93 | 0 => 0 | 3 => 3 | 37 => 128 | 48 => 141 | 50 => 27 | 4 => 4 | 40 => 134 | 39 => 133 | 45 => 52 | 5 => 5 | 9 => 9 | 51 => 143 | 55 => 147 | 57 => 149 | 58 => 44 | 33 => 115 | n => n, fun | n => n⟩
theorem sortedA : Go.Proofs.SlLaysZ.n6 Try.prog sortedA_ren := {
  mixed := (by kernel_rfl),
  f6 := ⟨Try.f40.name, by decide, Try.func40.trans (congrArg some (by kernel_rfl))⟩,
  f8 := ⟨Try.f50.name, by decide, Try.func50.trans (congrArg some (by kernel_rfl))⟩,
  f11 := ⟨Try.f59.name, by decide, Try.func59.trans (congrArg some (by kernel_rfl))⟩,
  t0 := Try.underlying0,
  a0 := Try.isAgg0,
  z0 := Try.sizeOf0,
  v0 := Try.zeroValue0,
  t24 := Try.underlying93,
  a24 := Try.isAgg93,
  z24 := Try.sizeOf93,
  v24 := Try.zeroValue93,
  t26 := Try.underlying9,
  a26 := Try.isAgg9,
  z26 := Try.sizeOf9,
  v26 := Try.zeroValue9,
  t28 := Try.underlying96,
  a28 := Try.isAgg96,
  z28 := Try.sizeOf96,
  v28 := Try.zeroValue96,
  i26 := (by kernel_rfl) }
def sortA_ren : Go.Shelf.Ren := ⟨fun | 6 => 51 | 8 => 61 | 9 => 60 | 19 => 74 | 20 => 75 | 21 => 65 | 22 => 66 | 23 => 67 | 24 => 68 | 25 => 69 | 26 => 70 | 27 => 71 | 28 => 72 | 29 => 73 | 36 => 77 | 31 => 78 | 32 => 79 | 37 => 80 | 38 => 81 | 39 => 82 | 41 => 83 | n => n, fun | 27 => 93 | 29 => 9 | 3 => 3 | 32 => 128 | 26 => 93 | 0 => 0 | 44 => 141 | 46 => 27 | 4 => 4 | 36 => 134 | 35 => 133 | 41 => 52 | 5 => 5 | 9 => 9 | 53 => 143 | 57 => 147 | 63 => 149 | 64 => 44 | n => n, fun | n => n⟩
theorem sortA : Go.Proofs.SlLaysM.n6 Try.prog sortA_ren := {
  mixed := (by kernel_rfl),
  f6 := ⟨Try.f51.name, by decide, Try.func51.trans (congrArg some (by kernel_rfl))⟩,
  f8 := Try.func61.trans (congrArg some (by kernel_rfl)),
  f9 := ⟨Try.f60.name, by decide, Try.func60.trans (congrArg some (by kernel_rfl))⟩,
  f19 := Try.func74.trans (congrArg some (by kernel_rfl)),
  f20 := Try.func75.trans (congrArg some (by kernel_rfl)),
  f21 := ⟨Try.f65.name, by decide, Try.func65.trans (congrArg some (by kernel_rfl))⟩,
  f22 := ⟨Try.f66.name, by decide, Try.func66.trans (congrArg some (by kernel_rfl))⟩,
  f23 := ⟨Try.f67.name, by decide, Try.func67.trans (congrArg some (by kernel_rfl))⟩,
  f24 := ⟨Try.f68.name, by decide, Try.func68.trans (congrArg some (by kernel_rfl))⟩,
  f25 := ⟨Try.f69.name, by decide, Try.func69.trans (congrArg some (by kernel_rfl))⟩,
  f26 := ⟨Try.f70.name, by decide, Try.func70.trans (congrArg some (by kernel_rfl))⟩,
  f27 := ⟨Try.f71.name, by decide, Try.func71.trans (congrArg some (by kernel_rfl))⟩,
  f28 := ⟨Try.f72.name, by decide, Try.func72.trans (congrArg some (by kernel_rfl))⟩,
  f29 := ⟨Try.f73.name, by decide, Try.func73.trans (congrArg some (by kernel_rfl))⟩,
  f31 := Try.func78.trans (congrArg some (by kernel_rfl)),
  f32 := Try.func79.trans (congrArg some (by kernel_rfl)),
  f36 := ⟨Try.f77.name, by decide, Try.func77.trans (congrArg some (by kernel_rfl))⟩,
  f37 := ⟨Try.f80.name, by decide, Try.func80.trans (congrArg some (by kernel_rfl))⟩,
  f38 := ⟨Try.f81.name, by decide, Try.func81.trans (congrArg some (by kernel_rfl))⟩,
  f39 := ⟨Try.f82.name, by decide, Try.func82.trans (congrArg some (by kernel_rfl))⟩,
  f41 := ⟨Try.f83.name, by decide, Try.func83.trans (congrArg some (by kernel_rfl))⟩,
  t0 := Try.underlying0,
  a0 := Try.isAgg0,
  z0 := Try.sizeOf0,
  v0 := Try.zeroValue0,
  t3 := Try.underlying3,
  a3 := Try.isAgg3,
  z3 := Try.sizeOf3,
  v3 := Try.zeroValue3,
  t4 := Try.underlying4,
  a4 := Try.isAgg4,
  z4 := Try.sizeOf4,
  v4 := Try.zeroValue4,
  t5 := Try.underlying5,
  a5 := Try.isAgg5,
  z5 := Try.sizeOf5,
  v5 := Try.zeroValue5,
  t9 := Try.underlying9,
  a9 := Try.isAgg9,
  z9 := Try.sizeOf9,
  v9 := Try.zeroValue9,
  t26 := Try.underlying93,
  a26 := Try.isAgg93,
  z26 := Try.sizeOf93,
  v26 := Try.zeroValue93,
  t27 := Try.underlying93,
  a27 := Try.isAgg93,
  z27 := Try.sizeOf93,
  v27 := Try.zeroValue93,
  t29 := Try.underlying9,
  a29 := Try.isAgg9,
  z29 := Try.sizeOf9,
  v29 := Try.zeroValue9,
  t32 := Try.underlying128,
  a32 := Try.isAgg128,
  z32 := Try.sizeOf128,
  v32 := Try.zeroValue128,
  t35 := Try.underlying133,
  a35 := Try.isAgg133,
  z35 := Try.sizeOf133,
  v35 := Try.zeroValue133,
  t36 := Try.underlying134,
  a36 := Try.isAgg134,
  z36 := Try.sizeOf134,
  v36 := Try.zeroValue134,
  t41 := Try.underlying52,
  a41 := Try.isAgg52,
  z41 := Try.sizeOf52,
  v41 := Try.zeroValue52,
  t44 := Try.underlying141,
  a44 := Try.isAgg141,
  z44 := Try.sizeOf141,
  v44 := Try.zeroValue141,
  t46 := Try.underlying27,
  a46 := Try.isAgg27,
  z46 := Try.sizeOf27,
  v46 := Try.zeroValue27,
  t53 := Try.underlying143,
  a53 := Try.isAgg143,
  z53 := Try.sizeOf143,
  v53 := Try.zeroValue143,
  t57 := Try.underlying147,
  a57 := Try.isAgg147,
  z57 := Try.sizeOf147,
  v57 := Try.zeroValue147,
  t63 := Try.underlying149,
  a63 := Try.isAgg149,
  z63 := Try.sizeOf149,
  v63 := Try.zeroValue149,
  t64 := Try.underlying44,
  a64 := Try.isAgg44,
  z64 := Try.sizeOf44,
  v64 := Try.zeroValue44 }

theorem sortsA (m : Nat) : AnyZ.SortsIn Try.prog sortedA_ren Fence.wide m :=
  ⟨fun blk off cap ss W hH hblk hsz => callsIn_wide.2 (AnyM.slices_Sort_string sortA blk off cap ss W hH hblk hsz),
   fun p cap W => callsIn_wide.2 (AnyM.slices_Sort_string_none sortA p cap W)⟩

theorem keys_any (mb : Option Nat) (W : World) : Calls Try.prog 41 #[.map mb] W fun e w' => e = .returned (.func (.func 52) #[] #[.pointer (some ⟨W.heap.size, 0, none⟩)]) ∧ w' = W.alloc (.cells #[.map mb] 98) :=
  callsIn_wide.1 (AnyZ.keys_in keysA Fence.wide 5 trivial rfl mb W)

set_option maxHeartbeats 1000000 in
theorem sorted_any {H : Type} (b nn : Nat) (D0 : DataW H) (R : Value → Option (DataW H × List MemPlace)) (w : World) (hown : w.ownsMap Try.prog 9 R b nn D0) (hmax : Maps.size D0 ≤ maxLen) (hbytes : Maps.size D0 * 16 ≤ 140737488355328) :
    Calls Try.prog 40 #[.func (.func 52) #[] #[.pointer (some ⟨w.heap.size, 0, none⟩)]] (w.alloc (.cells #[.map (some b)] 98)) fun e w' => ∃ (v : Value) (ss : List (List UInt8)), e = .returned v ∧ ss.Perm (strKeys D0) ∧
      w'.ownsRow w.heap.size 9 1 v ss.length ((ss.mergeSort (fun x y => decide (x ≤ y))).map encStr) ∧ (v = .slice none 0 0 ↔ ss = []) ∧ Below w.heap.size w w' := by
  have hbl := hown.lt
  have hseq : SeqGives Fence.wide 2 Try.prog 52 #[.pointer (some ⟨w.heap.size, 0, none⟩)] encStr (fun ss => ss.Perm (strKeys D0)) (Maps.size D0) (w.alloc (.cells #[.map (some b)] 98)) :=
    AnyZ.keys_gives (ρ := keysA_ren) { keysA with } Fence.wide _ trivial rfl (by omega) w.heap.size b nn D0 _ (by simp) (by simp) (by
      obtain ⟨es, clock, hb, Ft, hs, hD⟩ := hown
      exact ⟨es, clock, (Below.heap_alloc _ _ b hbl).trans hb, Ft, hs, hD⟩)
  have cS := AnyZ.sorted_in sortedA Fence.wide 5 trivial trivial trivial trivial rfl (by omega) (sortsA _) (enters_of Try.func51 (by kernel_rfl) rfl) 52 #[.pointer (some ⟨w.heap.size, 0, none⟩)] trivial (enters_of Try.func52 (by kernel_rfl) rfl) _ _ hmax hbytes _ hseq
  change CallsIn _ _ Try.prog 40 _ _ _ at cS
  refine (callsIn_wide.1 cS).mono ?_
  rintro e w' ⟨v, ss, rfl, hS, hrow, hnil, hb⟩
  exact ⟨v, ss, rfl, hS, ownsRow_base_a hrow (by simp), hnil, ((Below.refl _ w).alloc (Nat.le_refl _) _).trans (hb.mono (by simp))⟩

end Go.Proofs.Ythcjcmalfnfjkaa
