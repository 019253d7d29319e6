/-
  slices.Sort, slices.Sorted at ints, laid; slices.Values of nil; what was gone when nothing was.
-/
import Derived.RangeFuncNested
import Derived.RangeFuncBound
import Derived.RangeFuncCalls
import Derived.RangeFuncLeaves
import Derived.RangeFuncBox
import Derived.Shelf.Abstract
import Derived.Shelf.RegionOpen
import Derived.WalkKit
import Derived.OwnWalkIn
import Derived.TacticsInMore
import Derived.LoopNIn
import Derived.LoopIn
import Derived.Shelf.SlIterI.Sorted
import Derived.Shelf.Sort.Plain
import Derived.Shelf.Slices.In.SortNone
import Derived.Ground.NamesProg
import Derived.Ground.GgzProg
import Derived.Test.YtafciefjlkdecaaGreatTra
namespace Go.Proofs.YtafciefjlkdecaaGreat
open Go.RowKit Go.Maps Go.Sort Go.Shelf
set_option linter.unusedVariables false
attribute [local go_sem] Oper.semAt_some

def sortI_ren : Go.Shelf.Ren := ⟨fun | 189 => 82 | 125 => 111 | 257 => 110 | 128 => 148 | 129 => 149 | 294 => 139 | 295 => 140 | 296 => 141 | 297 => 142 | 298 => 143 | 299 => 144 | 216 => 145 | 300 => 146 | 301 => 147 | 328 => 168 | 329 => 169 | 330 => 170 | 331 => 171 | 332 => 172 | 215 => 173 | 343 => 183 | n => n, fun | 28 => 55 | 3 => 3 | 46 => 210 | 0 => 0 | 51 => 52 | 53 => 25 | 4 => 4 | 183 => 244 | 182 => 243 | 131 => 180 | 5 => 5 | 9 => 9 | 218 => 270 | 222 => 274 | 228 => 285 | 229 => 41 | n => n, fun | n => n⟩
theorem sortI : Go.Proofs.Lays.n189 Tryz.prog sortI_ren := {
  mixed := (by kernel_rfl),
  f125 := Tryz.func111.trans (congrArg some (by kernel_rfl)),
  f128 := Tryz.func148.trans (congrArg some (by kernel_rfl)),
  f129 := Tryz.func149.trans (congrArg some (by kernel_rfl)),
  f189 := Tryz.func82.trans (congrArg some (by kernel_rfl)),
  f215 := Tryz.func173.trans (congrArg some (by kernel_rfl)),
  f216 := Tryz.func145.trans (congrArg some (by kernel_rfl)),
  f257 := Tryz.func110.trans (congrArg some (by kernel_rfl)),
  f294 := Tryz.func139.trans (congrArg some (by kernel_rfl)),
  f295 := Tryz.func140.trans (congrArg some (by kernel_rfl)),
  f296 := Tryz.func141.trans (congrArg some (by kernel_rfl)),
  f297 := Tryz.func142.trans (congrArg some (by kernel_rfl)),
  f298 := Tryz.func143.trans (congrArg some (by kernel_rfl)),
  f299 := Tryz.func144.trans (congrArg some (by kernel_rfl)),
  f300 := Tryz.func146.trans (congrArg some (by kernel_rfl)),
  f301 := Tryz.func147.trans (congrArg some (by kernel_rfl)),
  f328 := Tryz.func168.trans (congrArg some (by kernel_rfl)),
  f329 := Tryz.func169.trans (congrArg some (by kernel_rfl)),
  f330 := Tryz.func170.trans (congrArg some (by kernel_rfl)),
  f331 := Tryz.func171.trans (congrArg some (by kernel_rfl)),
  f332 := Tryz.func172.trans (congrArg some (by kernel_rfl)),
  f343 := Tryz.func183.trans (congrArg some (by kernel_rfl)),
  t0 := Tryz.underlying0,
  a0 := Tryz.isAgg0,
  z0 := Tryz.sizeOf0,
  v0 := Tryz.zeroValue0,
  t3 := Tryz.underlying3,
  a3 := Tryz.isAgg3,
  z3 := Tryz.sizeOf3,
  v3 := Tryz.zeroValue3,
  t4 := Tryz.underlying4,
  a4 := Tryz.isAgg4,
  z4 := Tryz.sizeOf4,
  v4 := Tryz.zeroValue4,
  t5 := Tryz.underlying5,
  a5 := Tryz.isAgg5,
  z5 := Tryz.sizeOf5,
  v5 := Tryz.zeroValue5,
  t9 := Tryz.underlying9,
  a9 := Tryz.isAgg9,
  z9 := Tryz.sizeOf9,
  v9 := Tryz.zeroValue9,
  t28 := Tryz.underlying55,
  a28 := Tryz.isAgg55,
  z28 := Tryz.sizeOf55,
  v28 := Tryz.zeroValue55,
  t46 := Tryz.underlying210,
  a46 := Tryz.isAgg210,
  z46 := Tryz.sizeOf210,
  v46 := Tryz.zeroValue210,
  t51 := Tryz.underlying52,
  a51 := Tryz.isAgg52,
  z51 := Tryz.sizeOf52,
  v51 := Tryz.zeroValue52,
  t53 := Tryz.underlying25,
  a53 := Tryz.isAgg25,
  z53 := Tryz.sizeOf25,
  v53 := Tryz.zeroValue25,
  t131 := Tryz.underlying180,
  a131 := Tryz.isAgg180,
  z131 := Tryz.sizeOf180,
  v131 := Tryz.zeroValue180,
  t182 := Tryz.underlying243,
  a182 := Tryz.isAgg243,
  z182 := Tryz.sizeOf243,
  v182 := Tryz.zeroValue243,
  t183 := Tryz.underlying244,
  a183 := Tryz.isAgg244,
  z183 := Tryz.sizeOf244,
  v183 := Tryz.zeroValue244,
  t218 := Tryz.underlying270,
  a218 := Tryz.isAgg270,
  z218 := Tryz.sizeOf270,
  v218 := Tryz.zeroValue270,
  t222 := Tryz.underlying274,
  a222 := Tryz.isAgg274,
  z222 := Tryz.sizeOf274,
  v222 := Tryz.zeroValue274,
  t228 := Tryz.underlying285,
  a228 := Tryz.isAgg285,
  z228 := Tryz.sizeOf285,
  v228 := Tryz.zeroValue285,
  t229 := Tryz.underlying41,
  a229 := Tryz.isAgg41,
  z229 := Tryz.sizeOf41,
  v229 := Tryz.zeroValue41 }
def sortedI_ren : Go.Shelf.Ren := ⟨fun | 6 => 45 | 8 => 81 | 9 => 82 | 11 => 109 | 13 => 111 | 12 => 110 | 23 => 148 | 24 => 149 | 14 => 139 | 15 => 140 | 16 => 141 | 17 => 142 | 18 => 143 | 19 => 144 | 20 => 145 | 21 => 146 | 22 => 147 | 25 => 168 | 26 => 169 | 27 => 170 | 28 => 171 | 29 => 172 | 30 => 173 | 31 => 183 | n => n, fun | 26 => 3 | 28 => 126 | 24 => 55 | 0 => 0 | 3 => 3 | 37 => 210 | 48 => 52 | 50 => 25 | 4 => 4 | 40 => 244 | 39 => 243 | 45 => 180 | 5 => 5 | 9 => 9 | 51 => 270 | 55 => 274 | 57 => 285 | 58 => 41 | 33 => 170 | n => n, fun | n => n⟩
theorem sortedI : Go.Proofs.SlLaysZI.n6 Tryz.prog sortedI_ren := {
  mixed := (by kernel_rfl),
  f6 := ⟨Tryz.f45.name, by decide, Tryz.func45.trans (congrArg some (by kernel_rfl))⟩,
  f8 := ⟨Tryz.f81.name, by decide, Tryz.func81.trans (congrArg some (by kernel_rfl))⟩,
  f11 := ⟨Tryz.f109.name, by decide, Tryz.func109.trans (congrArg some (by kernel_rfl))⟩,
  t0 := Tryz.underlying0,
  a0 := Tryz.isAgg0,
  z0 := Tryz.sizeOf0,
  v0 := Tryz.zeroValue0,
  t24 := Tryz.underlying55,
  a24 := Tryz.isAgg55,
  z24 := Tryz.sizeOf55,
  v24 := Tryz.zeroValue55,
  t26 := Tryz.underlying3,
  a26 := Tryz.isAgg3,
  z26 := Tryz.sizeOf3,
  v26 := Tryz.zeroValue3,
  t28 := Tryz.underlying126,
  a28 := Tryz.isAgg126,
  z28 := Tryz.sizeOf126,
  v28 := Tryz.zeroValue126,
  i26 := (by kernel_rfl) }

theorem sortsI (m : Nat) : AnyZI.SortsIn Tryz.prog sortedI_ren Fence.wide m :=
  ⟨fun blk off cap ss W hH hblk hsz => callsIn_wide.2 (Any.slices_Sort_int sortI blk off cap ss W hH hblk hsz),
   fun p cap W => callsIn_wide.2 (Any.slices_Sort_int_none sortI p cap W)⟩

set_option maxHeartbeats 1000000 in
theorem values_any (a : Option Addr) (len cap : Nat) (w : World) :
    Calls Tryz.prog 46 #[.slice a len cap] w fun e w' => e = .returned (.func (.func 83) #[] #[.pointer (some ⟨w.heap.size, 0, none⟩)]) ∧ w' = w.alloc (.cells #[.slice a len cap] 55) := by
  refine (callsIn_wide (n := 5)).1 ?_
  refine callsIn_of_wp Tryz.func46 rfl trivial ?_ rfl
  simp only [Tryz.ntmps46, List.size_toArray, List.length_cons, List.length_nil, Nat.reduceAdd, Nat.reduceSub, Array.replicate_succ, Array.replicate_zero, List.push_toArray, List.append_toArray, List.nil_append, List.cons_append]
  gi_wp2
  go_ret
  exact ⟨rfl, rfl⟩

set_option maxRecDepth 100000 in
set_option maxHeartbeats 1000000 in
theorem values1_nil_in (F : Fence) (n : Nat) (h8 : F.fn 83) (hro : F.round = none) (l Bs : Nat) (J : List Int → World → Prop) (W : World) (hBs : W.cell? ⟨Bs, 0, none⟩ = some (.slice none 0 0)) (h0 : J [] W) :
    CallsIn F n Tryz.prog 83 #[.func (.yield l) #[] #[], .pointer (some ⟨Bs, 0, none⟩)] W fun e W' => (∃ v, e = .returned v) ∧ J [] W' := by
  refine callsIn_of_wp Tryz.func83 rfl h8 ?_ hro
  simp only [Tryz.ntmps83, List.size_toArray, List.length_cons, List.length_nil, Nat.reduceAdd, Nat.reduceSub, Array.replicate_succ, Array.replicate_zero, List.push_toArray, List.append_toArray, List.nil_append, List.cons_append]
  gi_wp2
  gi_loopw [7] (fun i wr => i = .int .i64 0 ∧ J [] wr) (fun _ _ => 0)
  case atStart => exact ⟨rfl, h0⟩
  case round =>
    obtain ⟨rfl, hJs⟩ := hrel
    gi_wp2
    go_end0
    exact ⟨⟨_, rfl⟩, hJs⟩

set_option maxHeartbeats 1000000 in
/-- Nothing, sorted, is nil. -/
theorem sorted_nil (w : World) :
    Calls Tryz.prog 45 #[.func (.func 83) #[] #[.pointer (some ⟨w.heap.size, 0, none⟩)]] (w.alloc (.cells #[.slice none 0 0] 55)) fun e w' => e = .returned (.slice none 0 0) ∧ Below w.heap.size w w' := by
  obtain ⟨w1, hw1⟩ : ∃ w1, w1 = w.alloc (.cells #[.slice none 0 0] 55) := ⟨_, rfl⟩
  have hc : w1.cell? ⟨w.heap.size, 0, none⟩ = some (.slice none 0 0) := by rw [hw1]; simp [go_sem]
  have hs : w.heap.size < w1.heap.size := by rw [hw1]; simp
  have hb0 : Below w.heap.size w w1 := by rw [hw1]; exact (Below.refl _ w).alloc (Nat.le_refl _) _
  rw [← hw1]
  clear hw1
  have hseq : SeqGives Fence.wide 2 Tryz.prog 83 #[.pointer (some ⟨w.heap.size, 0, none⟩)] encZ (fun ss => ss = []) 0 w1 := by
    intro l J W hW _ hY h0
    exact (values1_nil_in Fence.wide 2 trivial rfl l w.heap.size J W ((hW.cell (p := ⟨w.heap.size, 0, none⟩) hs).trans hc) h0).mono fun e W' ⟨he, hj⟩ => ⟨he, [], rfl, hj⟩
  have cS := AnyZI.sorted_in sortedI Fence.wide 5 trivial trivial trivial trivial rfl (by omega) (sortsI _) (enters_of Tryz.func82 (by kernel_rfl) rfl) 83 #[.pointer (some ⟨w.heap.size, 0, none⟩)] trivial (enters_of Tryz.func83 (by kernel_rfl) rfl) _ 0 (Nat.zero_le _) (by omega) _ hseq
  change CallsIn _ _ Tryz.prog 45 _ _ _ at cS
  refine (callsIn_wide.1 cS).mono ?_
  rintro e w' ⟨v, ss, rfl, rfl, hrow, hnil, hb⟩
  exact ⟨by rw [hnil.2 rfl], hb0.trans (hb.mono (by omega))⟩

end Go.Proofs.YtafciefjlkdecaaGreat
