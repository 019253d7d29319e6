/-
  The walks of slices.Values, Collect, Sorted at ints.
-/
import Derived.Test.YtblleinahlaohaaBtb
import Derived.Shelf.SlicesG.CompactI
import Derived.Shelf.SortM.Plain
import Derived.Shelf.SortM.SortNone
import Derived.Shelf.SlIter.Collect
import Derived.Sort.OwnSortedInts
import Derived.Ground.SlgnProg
import Derived.Ground.SlgmProg
namespace Go.Proofs.Ytblleinahlaohaa
open Go.RowKit Go.Shelf
open Go.Sort (Holds putCells grow grow_empty)
set_option linter.unusedVariables false
attribute [local go_sem] Oper.semAt_some

def sortI_ren : Go.Shelf.Ren := ⟨fun | 5 => 36 | 8 => 42 | 7 => 41 | 19 => 52 | 20 => 53 | 10 => 43 | 11 => 44 | 12 => 45 | 13 => 46 | 14 => 47 | 15 => 48 | 16 => 49 | 17 => 50 | 18 => 51 | 30 => 54 | 31 => 55 | 32 => 56 | 33 => 57 | 34 => 58 | 35 => 59 | 40 => 60 | n => n, fun | 23 => 23 | 25 => 3 | 3 => 3 | 32 => 72 | 22 => 23 | 0 => 0 | 44 => 86 | 46 => 50 | 4 => 4 | 36 => 80 | 35 => 79 | 41 => 39 | 5 => 5 | 9 => 9 | 53 => 88 | 57 => 91 | 63 => 93 | 64 => 67 | n => n, fun | n => n⟩
theorem sortI : Go.Proofs.SlLaysM.n5 Try.prog sortI_ren := {
  mixed := (by kernel_rfl),
  f5 := ⟨Try.f36.name, by decide, Try.func36.trans (congrArg some (by kernel_rfl))⟩,
  f7 := ⟨Try.f41.name, by decide, Try.func41.trans (congrArg some (by kernel_rfl))⟩,
  f8 := Try.func42.trans (congrArg some (by kernel_rfl)),
  f10 := ⟨Try.f43.name, by decide, Try.func43.trans (congrArg some (by kernel_rfl))⟩,
  f11 := ⟨Try.f44.name, by decide, Try.func44.trans (congrArg some (by kernel_rfl))⟩,
  f12 := ⟨Try.f45.name, by decide, Try.func45.trans (congrArg some (by kernel_rfl))⟩,
  f13 := ⟨Try.f46.name, by decide, Try.func46.trans (congrArg some (by kernel_rfl))⟩,
  f14 := ⟨Try.f47.name, by decide, Try.func47.trans (congrArg some (by kernel_rfl))⟩,
  f15 := ⟨Try.f48.name, by decide, Try.func48.trans (congrArg some (by kernel_rfl))⟩,
  f16 := ⟨Try.f49.name, by decide, Try.func49.trans (congrArg some (by kernel_rfl))⟩,
  f17 := ⟨Try.f50.name, by decide, Try.func50.trans (congrArg some (by kernel_rfl))⟩,
  f18 := ⟨Try.f51.name, by decide, Try.func51.trans (congrArg some (by kernel_rfl))⟩,
  f19 := Try.func52.trans (congrArg some (by kernel_rfl)),
  f20 := Try.func53.trans (congrArg some (by kernel_rfl)),
  f30 := ⟨Try.f54.name, by decide, Try.func54.trans (congrArg some (by kernel_rfl))⟩,
  f31 := Try.func55.trans (congrArg some (by kernel_rfl)),
  f32 := Try.func56.trans (congrArg some (by kernel_rfl)),
  f33 := ⟨Try.f57.name, by decide, Try.func57.trans (congrArg some (by kernel_rfl))⟩,
  f34 := ⟨Try.f58.name, by decide, Try.func58.trans (congrArg some (by kernel_rfl))⟩,
  f35 := ⟨Try.f59.name, by decide, Try.func59.trans (congrArg some (by kernel_rfl))⟩,
  f40 := ⟨Try.f60.name, by decide, Try.func60.trans (congrArg some (by kernel_rfl))⟩,
  t0 := Try.underlying0,
  a0 := Try.isAgg0,
  z0 := Try.sizeOf0,
  v0 := Try.zeroValue0,
  t3 := Try.underlying3,
  a3 := Try.isAgg3,
  z3 := Try.sizeOf3,
  v3 := Try.zeroValue3,
  t4 := Try.underlying4,
  a4 := Try.isAgg4,
  z4 := Try.sizeOf4,
  v4 := Try.zeroValue4,
  t5 := Try.underlying5,
  a5 := Try.isAgg5,
  z5 := Try.sizeOf5,
  v5 := Try.zeroValue5,
  t9 := Try.underlying9,
  a9 := Try.isAgg9,
  z9 := Try.sizeOf9,
  v9 := Try.zeroValue9,
  t22 := Try.underlying23,
  a22 := Try.isAgg23,
  z22 := Try.sizeOf23,
  v22 := Try.zeroValue23,
  t23 := Try.underlying23,
  a23 := Try.isAgg23,
  z23 := Try.sizeOf23,
  v23 := Try.zeroValue23,
  t25 := Try.underlying3,
  a25 := Try.isAgg3,
  z25 := Try.sizeOf3,
  v25 := Try.zeroValue3,
  t32 := Try.underlying72,
  a32 := Try.isAgg72,
  z32 := Try.sizeOf72,
  v32 := Try.zeroValue72,
  t35 := Try.underlying79,
  a35 := Try.isAgg79,
  z35 := Try.sizeOf79,
  v35 := Try.zeroValue79,
  t36 := Try.underlying80,
  a36 := Try.isAgg80,
  z36 := Try.sizeOf80,
  v36 := Try.zeroValue80,
  t41 := Try.underlying39,
  a41 := Try.isAgg39,
  z41 := Try.sizeOf39,
  v41 := Try.zeroValue39,
  t44 := Try.underlying86,
  a44 := Try.isAgg86,
  z44 := Try.sizeOf86,
  v44 := Try.zeroValue86,
  t46 := Try.underlying50,
  a46 := Try.isAgg50,
  z46 := Try.sizeOf50,
  v46 := Try.zeroValue50,
  t53 := Try.underlying88,
  a53 := Try.isAgg88,
  z53 := Try.sizeOf88,
  v53 := Try.zeroValue88,
  t57 := Try.underlying91,
  a57 := Try.isAgg91,
  z57 := Try.sizeOf91,
  v57 := Try.zeroValue91,
  t63 := Try.underlying93,
  a63 := Try.isAgg93,
  z63 := Try.sizeOf93,
  v63 := Try.zeroValue93,
  t64 := Try.underlying67,
  a64 := Try.isAgg67,
  z64 := Try.sizeOf67,
  v64 := Try.zeroValue67 }
def compactI_ren : Go.Shelf.Ren := ⟨fun | 43 => 28 | n => n, fun | 22 => 23 | 23 => 3 | 3 => 3 | 4 => 4 | 0 => 0 | n => n, fun | n => n⟩
theorem compactI : Go.Proofs.SlLaysN.n43 Try.prog compactI_ren := {
  mixed := (by kernel_rfl),
  f43 := ⟨Try.f28.name, by decide, Try.func28.trans (congrArg some (by kernel_rfl))⟩,
  t0 := Try.underlying0,
  a0 := Try.isAgg0,
  z0 := Try.sizeOf0,
  v0 := Try.zeroValue0,
  t3 := Try.underlying3,
  a3 := Try.isAgg3,
  z3 := Try.sizeOf3,
  v3 := Try.zeroValue3,
  t4 := Try.underlying4,
  a4 := Try.isAgg4,
  z4 := Try.sizeOf4,
  v4 := Try.zeroValue4,
  t22 := Try.underlying23,
  a22 := Try.isAgg23,
  z22 := Try.sizeOf23,
  v22 := Try.zeroValue23,
  t23 := Try.underlying3,
  a23 := Try.isAgg3,
  z23 := Try.sizeOf3,
  v23 := Try.zeroValue3,
  i23 := (by kernel_rfl) }

theorem upto_fst (zs : List Int) : upto (fun j => zs[j]?.getD 0) zs.length = zs := by
  apply List.ext_getElem
  · simp [upto]
  · intro i h1 h2
    simp [upto, h2]
theorem own_abides {W W' : World} {row : Option Nat} {base : Nat} {e : TypeId} {v : Value} {k : Nat} {xs : List Value} (h : W.ownsRow base e 1 v k xs) (hg : W.grownBy W' row)
    (hrow : ∀ r, row = some r → ∃ o : Obj, W.heap[r]? = some o ∧ o.isCells = false) : W'.ownsRow base e 1 v k xs := by
  refine h.kept hg ?_
  rcases h.2 with ⟨rfl, _⟩ | ⟨g, cap, cur, rfl, _, hgb, _⟩
  · exact .inl rfl
  · refine .inr fun e' => ?_
    obtain ⟨o, ho, hc⟩ := hrow g (by simpa [Value.ownBlock] using e'.symm)
    rw [hgb] at ho; cases ho; cases hc

set_option maxRecDepth 100000 in
set_option maxHeartbeats 2000000 in
theorem vals1_in (F : Fence) (n : Nat) (h8 : F.fn 37) (hro : F.round = none) (hn : 1 ≤ n) (l Bs n₀ b off cap : Nat) (zs : List Int) (hreach : zs.length ≤ 1000000) (hb : b < n₀) (J Jx : List Int → World → Prop)
    (hY : ∀ pre x W, J pre W → pre.length < zs.length → YieldAt F (n - 1) Try.prog l #[.int .i64 x] W fun e W' =>
      (e = .returned (.bool true) ∧ J (pre ++ [x]) W' ∧ Below n₀ W W') ∨ (e = .returned (.bool false) ∧ Jx (pre ++ [x]) W'))
    (W : World) (hBs : W.cell? ⟨Bs, 0, none⟩ = some (.slice (some ⟨b, off, none⟩) zs.length cap)) (hc : ∀ j, j < zs.length → W.cell? ⟨b, off + j, none⟩ = some (.int .i64 (zs[j]?.getD 0))) (h0 : J [] W) :
    CallsIn F n Try.prog 37 #[.func (.yield l) #[] #[], .pointer (some ⟨Bs, 0, none⟩)] W fun e W' => (∃ v, e = .returned v) ∧
      ((∃ ys, ys = upto (fun j => zs[j]?.getD 0) zs.length ∧ J ys W') ∨ (∃ pre, True ∧ Jx pre W')) := by
  refine callsIn_of_wp Try.func37 rfl h8 ?_ hro
  simp only [Try.ntmps37, List.size_toArray, List.length_cons, List.length_nil, Nat.reduceAdd, Nat.reduceSub, Array.replicate_succ, Array.replicate_zero, List.push_toArray, List.append_toArray, List.nil_append, List.cons_append]
  gi_wp2
  gi_loopw [7] (fun i wr => ∃ k : Nat, k ≤ zs.length ∧ i = .int .i64 k ∧ J (upto (fun j => zs[j]?.getD 0) k) wr ∧ Below n₀ W wr)
    (fun i _ => zs.length - (intOf i).toNat)
  case atStart => exact ⟨0, Nat.zero_le _, rfl, h0, Below.refl _ _⟩
  case round =>
    obtain ⟨k, hk, rfl, hJs, hnx⟩ := hrel
    by_cases hlt : k < zs.length
    · have hcx' : wr.cell? ⟨b, off + k, none⟩ = some (.int .i64 (zs[k]?.getD 0)) := (hnx.cell (p := ⟨b, off + k, none⟩) hb).trans (hc k hlt)
      obtain ⟨z, hz⟩ : ∃ z, z = zs[k]?.getD 0 := ⟨_, rfl⟩
      rw [← hz] at hcx'
      obtain ⟨fn, tmps, assign, body, hy, hR⟩ := hY _ z wr hJs (by rw [upto_length]; exact hlt)
      have HZ := Lib.hid hz
      clear hz
      gi_wp2
      refine hR.mono ?_
      rintro e W3 (⟨rfl, hJ3, hk3⟩ | ⟨rfl, hJx3⟩)
      · gi_wp2
        go_roundw
        case rel => exact ⟨k + 1, by omega, by simp, by rw [upto_succ, ← HZ.out]; exact hJ3, hnx.trans hk3⟩
        case measure => simp [intOf]; omega
      · gi_wp2
        refine bodyPost_ret (results_none rfl _ _ _) rfl ?_
        exact ⟨⟨_, rfl⟩, .inr ⟨_, trivial, hJx3⟩⟩
    · obtain rfl : k = zs.length := by omega
      gi_wp2
      go_end0
      exact ⟨⟨_, rfl⟩, .inl ⟨_, rfl, hJs⟩⟩

set_option maxRecDepth 100000 in
set_option maxHeartbeats 1000000 in
theorem vals1_nil_in (F : Fence) (n : Nat) (h8 : F.fn 37) (hro : F.round = none) (l Bs : Nat) (J : List Int → World → Prop) (W : World) (hBs : W.cell? ⟨Bs, 0, none⟩ = some (.slice none 0 0)) (h0 : J [] W) :
    CallsIn F n Try.prog 37 #[.func (.yield l) #[] #[], .pointer (some ⟨Bs, 0, none⟩)] W fun e W' => (∃ v, e = .returned v) ∧ J [] W' := by
  refine callsIn_of_wp Try.func37 rfl h8 ?_ hro
  simp only [Try.ntmps37, List.size_toArray, List.length_cons, List.length_nil, Nat.reduceAdd, Nat.reduceSub, Array.replicate_succ, Array.replicate_zero, List.push_toArray, List.append_toArray, List.nil_append, List.cons_append]
  gi_wp2
  gi_loopw [7] (fun i wr => i = .int .i64 0 ∧ J [] wr) (fun _ _ => 0)
  case atStart => exact ⟨rfl, h0⟩
  case round =>
    obtain ⟨rfl, hJs⟩ := hrel
    gi_wp2
    go_end0
    exact ⟨⟨_, rfl⟩, hJs⟩

theorem vals_stops (F : Fence) (n : Nat) (h7 : F.fn 37) (hro : F.round = none) (hn : 1 ≤ n) (Bs n₀ : Nat) (sv : Value) (zs : List Int) (hreach : zs.length ≤ 1000000) (w : World) (hBs : Bs < w.heap.size) (hn₀ : n₀ ≤ w.heap.size)
    (hc : w.cell? ⟨Bs, 0, none⟩ = some sv) (hI : Ints n₀ w sv zs) :
    SeqStopsK F n Try.prog 37 #[.pointer (some ⟨Bs, 0, none⟩)] (fun x : Int => #[Value.int .i64 x]) (Below n₀) (fun ys => ys = zs) (fun _ => True) zs.length w := fun l J Jx W hW _ _ hY h0 => by
  have hc' := (hW.cell (p := ⟨Bs, 0, none⟩) hBs).trans hc
  rcases hI.below (hW.mono hn₀) with ⟨rfl, rfl⟩ | ⟨b, off, cap, rfl, hb, hcs⟩
  · exact (vals1_nil_in F n h7 hro l Bs J W hc' h0).mono fun e W' ⟨he, hj⟩ => ⟨he, .inl ⟨_, rfl, hj⟩⟩
  · refine (vals1_in F n h7 hro hn l Bs n₀ b off cap zs hreach hb J Jx hY W hc' hcs h0).mono ?_
    rintro e W' ⟨he, ⟨ys, rfl, hj⟩ | ⟨pre, _, hj⟩⟩
    · exact ⟨he, .inl ⟨_, upto_fst zs, hj⟩⟩
    · exact ⟨he, .inr ⟨_, trivial, hj⟩⟩

set_option maxHeartbeats 1000000 in
theorem vals_any (a : Option Addr) (len cap : Nat) (w : World) :
    Calls Try.prog 27 #[.slice a len cap] w fun e w' => e = .returned (.func (.func 37) #[] #[.pointer (some ⟨w.heap.size, 0, none⟩)]) ∧ w' = w.alloc (.cells #[.slice a len cap] 23) := by
  go_enter Try.func27, Try.ntmps27
  go_wp2
  go_ret
  exact ⟨rfl, rfl⟩

set_option maxRecDepth 100000 in
set_option maxHeartbeats 4000000 in
/-- slices.AppendSeq(nil, slices.Values(s)). -/
theorem apSeq_in (Bv : Nat) (sv : Value) (zs : List Int) (hreach : zs.length ≤ 1000000) (w : World) (hBs : Bv < w.heap.size) (hc : w.cell? ⟨Bv, 0, none⟩ = some sv) (hI : Ints w.heap.size w sv zs) :
    CallsIn Fence.wide 9 Try.prog 40 #[.slice none 0 0, .func (.func 37) #[] #[.pointer (some ⟨Bv, 0, none⟩)]] w fun e w' => ∃ v, e = .returned v ∧ w'.ownsRow w.heap.size 3 1 v zs.length (intsV zs) ∧ Below w.heap.size w w' := by
  obtain ⟨i0, hi, hz0, hz1, hz2⟩ := info_parts infoI
  refine callsIn_of_wp_marks Try.func40 rfl trivial ?_ rfl
  simp only [Try.ntmps40, List.size_toArray, List.length_cons, List.length_nil, Nat.reduceAdd, Nat.reduceSub, Array.replicate_succ, Array.replicate_zero, List.push_toArray, List.append_toArray, List.nil_append, List.cons_append]
  gi_wp2
  obtain ⟨W0, hW0⟩ : ∃ W0, w.alloc (.cells #[.slice none 0 0] 23) = W0 := ⟨_, rfl⟩
  have hs0 : W0.heap.size = w.heap.size + 1 := by rw [← hW0]; simp
  have hv0 : W0.heap[w.heap.size]? = some (.cells #[.slice none 0 0] 23 (0, 0)) := by rw [← hW0]; exact World.alloc_heap_new w _
  have hb0 : Below w.heap.size w W0 := by rw [← hW0]; exact (Below.refl _ w).alloc (Nat.le_refl _) _
  rw [hW0]
  have hc0 := (hb0.cell (p := ⟨Bv, 0, none⟩) hBs).trans hc
  have hI0 := hI.below hb0
  clear hW0
  refine wpIn_rangeFunc_ownG rfl (by decide) (gf := 37) (lb := #[.pointer (some ⟨Bv, 0, none⟩)]) rfl trivial (enters_of Try.func37 (by kernel_rfl) rfl)
    (vals_stops Fence.wide 8 trivial rfl (by decide) Bv w.heap.size sv zs hreach W0 (by omega) (by omega) hc0 hI0) belowK_t (belowK_b (by omega)) (Below.refl _ _) (fun _ => rfl)
    (fun pre W => (∃ v, W.heap[w.heap.size]? = some (.cells #[v] 23 (0, 0)) ∧ W.ownsRow w.heap.size 3 1 v pre.length (intsV pre)) ∧ Below w.heap.size w W)
    (fun _ _ _ => False)
    (OwnFrom.and (Own.from (fun s A B row hs hg hr => by obtain ⟨v, hv, ho⟩ := hs; exact ⟨v, (grownBy_keeps_cells hg hr hv rfl).trans hv, own_abides ho hg hr⟩) _) (ownFrom_below (Nat.le_refl _) (by omega)))
    (fun c => Own.from (fun s A B row hs hg hr => hs.elim) _)
    ⟨⟨_, hv0, World.ownsRow_nil _ _ _ _⟩, hb0⟩
    (fun y => { tmps := #[.slice none 0 0, .func (.func 37) #[] #[.pointer (some ⟨Bv, 0, none⟩)], .pointer (some ⟨w.heap.size, 0, none⟩), undef, .slice none 0 0, .int .i64 y, .func (.func 37) #[] #[.pointer (some ⟨Bv, 0, none⟩)], .int .i64 y, undef, undef, undef, undef, undef], defers := [] }) ?assign ?body ?done ?stop
  case assign =>
    intro l y W K hK
    gi_wp2
    exact hK
  case body =>
    rintro l pre y W ⟨⟨v, hv, hrow⟩, hB⟩ hlen
    have hBlt : w.heap.size < W.heap.size := (Array.getElem?_eq_some_iff.1 hv).1
    obtain ⟨hc2, hf2⟩ := cell_of_box_a hv
    gi_wp2_with (first
      | (gi_at_builtin; refine wpListIn_append_own _ rfl _ _ 23 rfl w.heap.size 3 i0 (.int .i64 0) 1 8 Try.underlying23 hi hz0 hz1 hz2 rfl (by decide) _ _ _ rfl (hrow.alloc _) ⟨W.heap.size, 0, none⟩ 1 1 [.int .i64 y] rfl rfl (cell_one_new _ _ _) (by simp [Value.oneCell']) (by unfold maxLen; omega) (by omega) (by have := hB.size; simp; omega) ?_; intro v' w3 hown' hg3 hnil3
         have hne : some w.heap.size ≠ v.ownBlock := by
           rcases ownsRow_ne_a hrow hv (fun cur e => by cases e) with e | e
           · rw [e]; simp
           · exact fun e' => e e'.symm
         have hv3 : w3.heap[w.heap.size]? = some (.cells #[v] 23 (0, 0)) := (hg3.block w.heap.size (by simp; omega) hne).trans ((Below.heap_alloc _ _ w.heap.size hBlt).trans hv)
         obtain ⟨hc3, hf3⟩ := cell_of_box_a hv3
         obtain ⟨g', cap', rfl⟩ : ∃ g' cap', v' = .slice (some ⟨g', 0, none⟩) (pre.length + 1) cap' := by
           rcases hown'.2 with ⟨_, h0⟩ | ⟨g', cap', cur', e, _⟩
           · exact absurd h0 (by omega)
           · exact ⟨g', cap', e⟩
         go_frame)
      | gi_in)
    have hg3' : (W.alloc (.cells #[.int .i64 y] 3)).grownBy w3 v.ownBlock := hg3
    have hb3 : Below w.heap.size w w3 := (hB.alloc hB.size _).grown hg3' (by have := hB.size; simp; omega) (fun k e => (hrow.lt k e).1)
    have hKo : KeepsOthers (W.alloc (.cells #[.int .i64 y] 3)) w3 := KeepsOthers.of_grownBy hg3' (fun j o hj ho => by
      rcases (hrow.alloc (.cells #[.int .i64 y] 3)).2 with ⟨rfl, _⟩ | ⟨g, cap, cur, rfl, _, hgb, _⟩
      · simp [Value.ownBlock] at hj
      · have : g = j := by simpa [Value.ownBlock] using hj
        subst this; rw [hgb] at ho; cases ho; rfl)
    have hbW : Below w.heap.size W (w3.setCell ⟨w.heap.size, 0, none⟩ (.slice (some ⟨g', 0, none⟩) (pre.length + 1) cap')) := ((((Below.refl _ W).mono hB.size).alloc hB.size _).grown hg3' (by have := hB.size; simp; omega) (fun k e => (hrow.lt k e).1)).setCell (p := ⟨w.heap.size, 0, none⟩) (Nat.le_refl _) _
    refine ⟨(((KeepsOthers.alloc W _).trans hKo).trans (KeepsOthers.setCell _ _ _)).from _, hbW, ⟨_, heap_setCell_box_a _ hv3, ?_⟩, hb3.setCell (p := ⟨w.heap.size, 0, none⟩) (Nat.le_refl _) _⟩
    have h9 := hown'.kept (grownBy_setCell0_a w3 w.heap.size (.slice (some ⟨g', 0, none⟩) (pre.length + 1) cap')) (ownsRow_ne_a hown' hv3 (fun cur e => by cases e))
    rw [intsV_snoc]
    simpa using h9
  case done =>
    rintro D ys W hD rfl ⟨⟨v, hv, hrow⟩, hB⟩ hK
    obtain ⟨hc2, hf2⟩ := cell_of_box_a hv
    gi_wp2
    refine ⟨by simp, .inl ⟨_, _, rfl, run_takeDeferred hK, ?_⟩⟩
    have hDW : w.heap.size ≤ D := by omega
    exact ⟨_, results_tmp rfl _ _ _, v, rfl, hrow.kept (grownBy_putObj' _ _ _) (ownsRow_ne_a hrow hK (fun cur e => by cases e)), hB.grown (grownBy_putObj' _ _ _) hB.size (fun k e => by cases e; omega)⟩
  case stop =>
    rintro D c pre W hD - h
    exact h.elim

set_option maxHeartbeats 1000000 in
theorem collect_any (Bv : Nat) (sv : Value) (zs : List Int) (hreach : zs.length ≤ 1000000) (w : World) (hBs : Bv < w.heap.size) (hc : w.cell? ⟨Bv, 0, none⟩ = some sv) (hI : Ints w.heap.size w sv zs) :
    Calls Try.prog 35 #[.func (.func 37) #[] #[.pointer (some ⟨Bv, 0, none⟩)]] w fun e w' => ∃ v, e = .returned v ∧ w'.ownsRow w.heap.size 3 1 v zs.length (intsV zs) ∧ Below w.heap.size w w' := by
  go_enter Try.func35, Try.ntmps35
  go_wp2_with (go_at_call 40; refine (callsIn_wide.1 (apSeq_in Bv sv zs hreach w hBs hc hI)).mono ?_; rintro e w' ⟨v, rfl, hrow, hb⟩)
  go_ret
  exact ⟨v, rfl, hrow, hb⟩

/-- What is left of an ascending row, each once. -/
theorem compact_asc (d : Array Int) (hs : ∀ i j, i < j → j < d.size → d[i]! ≤ d[j]!) : ∀ m, m ≤ d.size → (Lib.compactUpTo d m).Pairwise (· < ·) ∧ (∀ x, x ∈ Lib.compactUpTo d m ↔ ∃ j, j < m ∧ d[j]! = x) := by
  intro m
  induction m with
  | zero => intro _; simp [Lib.compactUpTo]
  | succ m ih =>
    intro hm
    obtain ⟨h1, h2⟩ := ih (by omega)
    rw [Lib.compactUpTo_succ]
    by_cases hk : Lib.keeps d m = true
    · rw [if_pos hk]
      refine ⟨List.pairwise_append.2 ⟨h1, by simp, fun a ha b hb => ?_⟩, fun x => ?_⟩
      · rw [List.mem_singleton.1 hb]
        obtain ⟨j, hj, rfl⟩ := (h2 a).1 ha
        have hm1 : d[m]! ≠ d[m - 1]! := by
          unfold Lib.keeps at hk
          simp only [decide_eq_true_eq] at hk
          rcases hk with h | h
          · omega
          · exact h
        have h3 : d[j]! ≤ d[m - 1]! := by
          by_cases hjm : j = m - 1
          · rw [hjm]; exact Int.le_refl _
          · exact hs j (m - 1) (by omega) (by omega)
        have h4 := hs (m - 1) m (by omega) (by omega)
        omega
      · rw [List.mem_append, h2 x, List.mem_singleton]
        constructor
        · rintro (⟨j, hj, e⟩ | e)
          · exact ⟨j, by omega, e⟩
          · exact ⟨m, by omega, e.symm⟩
        · rintro ⟨j, hj, e⟩
          by_cases hjm : j = m
          · subst hjm; exact Or.inr e.symm
          · exact Or.inl ⟨j, by omega, e⟩
    · rw [if_neg hk, List.append_nil]
      refine ⟨h1, fun x => ?_⟩
      rw [h2 x]
      have hm1 : m ≠ 0 ∧ d[m]! = d[m - 1]! := by
        unfold Lib.keeps at hk
        simp only [decide_eq_true_eq, not_or, Decidable.not_not] at hk
        exact hk
      constructor
      · rintro ⟨j, hj, e⟩; exact ⟨j, by omega, e⟩
      · rintro ⟨j, hj, e⟩
        by_cases hjm : j = m
        · subst hjm; exact ⟨j - 1, by omega, by rw [← hm1.2]; exact e⟩
        · exact ⟨j, by omega, e⟩
theorem compact_sorted (zs : List Int) : (Lib.compact (zs.mergeSort fun x y => decide (x ≤ y))).Pairwise (· < ·) ∧ (∀ x, x ∈ Lib.compact (zs.mergeSort fun x y => decide (x ≤ y)) ↔ x ∈ zs) := by
  obtain ⟨ss, hss⟩ : ∃ ss, ss = zs.mergeSort fun x y => decide (x ≤ y) := ⟨_, rfl⟩
  have hp := List.mergeSort_perm zs fun x y => decide (x ≤ y)
  have hs := List.pairwise_mergeSort (le := fun x y : Int => decide (x ≤ y)) (by intro a b c h1 h2; simp only [decide_eq_true_eq] at *; omega) (by intro a b; simp only [Bool.or_eq_true, decide_eq_true_eq]; omega) zs
  rw [← hss] at hp hs ⊢
  have hg : ∀ j, j < ss.length → ss.toArray[j]! = ss[j]?.getD 0 := fun j hj => by rw [getElem!_pos _ _ (by simpa using hj)]; simp [hj]
  obtain ⟨h1, h2⟩ := compact_asc ss.toArray (fun i j hij hj => by
    have hj' : j < ss.length := by simpa using hj
    rw [hg i (by omega), hg j hj']
    have := List.pairwise_iff_getElem.1 hs i j (by omega) hj' hij
    simpa [hj', show i < ss.length by omega] using this) ss.length (by simp)
  refine ⟨h1, fun x => ?_⟩
  show x ∈ Lib.compactUpTo ss.toArray ss.length ↔ _
  rw [h2 x, ← hp.mem_iff]
  constructor
  · rintro ⟨j, hj, e⟩
    rw [hg j hj] at e
    rw [← e, List.getElem?_eq_getElem hj]
    exact List.getElem_mem hj
  · intro hx
    obtain ⟨j, hj, e⟩ := List.getElem_of_mem hx
    exact ⟨j, hj, by rw [hg j hj, List.getElem?_eq_getElem hj]; exact e⟩

set_option maxHeartbeats 2000000 in
theorem sorted_any (Bv : Nat) (sv : Value) (zs : List Int) (hreach : zs.length ≤ 1000000) (w : World) (hBs : Bv < w.heap.size) (hc : w.cell? ⟨Bv, 0, none⟩ = some sv) (hI : Ints w.heap.size w sv zs) :
    Calls Try.prog 26 #[.func (.func 37) #[] #[.pointer (some ⟨Bv, 0, none⟩)]] w fun e w' => ∃ v, e = .returned v ∧ w'.ownsRow w.heap.size 3 1 v zs.length (intsV (zs.mergeSort fun x y => decide (x ≤ y))) ∧ Below w.heap.size w w' := by
  go_enter Try.func26, Try.ntmps26
  go_upto_region 2 with (go_at_call 35; refine (collect_any Bv sv zs hreach w hBs hc hI).mono ?_; rintro e w1 ⟨v, rfl, hrow, hb⟩)
  have hlen := (Ints.of_own hrow).1
  rcases hrow.2 with ⟨rfl, h0⟩ | ⟨g, cap, cur, rfl, hbase, hgb, h3, h4, h5, h6⟩
  · have hz : zs = [] := List.eq_nil_of_length_eq_zero h0
    subst hz
    go_wp2_with (go_at_call 36; refine (AnyM.slices_Sort_int_none sortI none 0 w1).mono ?_; rintro e w2 ⟨rfl, rfl⟩)
    go_ret
    exact ⟨_, rfl, by simpa [intsV] using hrow, hb⟩
  · have hH : Holds (Value.int .i64) w1 g 0 zs.toArray := holds_of_blockI hgb (by simpa [intsV] using h6)
    have hgl : g < w1.heap.size := (Array.getElem?_eq_some_iff.1 hgb).1
    have cS := AnyM.slices_Sort_int sortI g 0 cap zs w1 hH hgl (by omega)
    go_wp2_with (go_at_call 36; refine cS.mono ?_; rintro e w2 ⟨rfl, nn, os, rfl⟩)
    go_ret
    exact ⟨_, rfl, ownsRow_sortedI (by simp) hbase hgb h3 h4 h5, hb.grown (grownBy_sortedI _) hb.size (fun j hj => by cases hj; exact hbase)⟩

/-- A table's Moved: the blocks that were moved, each once, rising. -/
def MovedIs (zs l : List Int) : Prop := l.Pairwise (· < ·) ∧ ∀ x, x ∈ l ↔ x ∈ zs

set_option maxHeartbeats 2000000 in
theorem compact_any (v : Value) (ss : List Int) (hl : ss.length ≤ 1000000) (w w1 : World) (hrow : w1.ownsRow w.heap.size 3 1 v ss.length (intsV ss)) (hb : Below w.heap.size w w1) :
    Calls Try.prog 28 #[v] w1 fun e w' => ∃ v', e = .returned v' ∧ Ints w'.heap.size w' v' (Lib.compact ss) ∧ Below w.heap.size w w' := by
  rcases hrow.2 with ⟨rfl, h0⟩ | ⟨g, cap, cur, rfl, hbase, hgb, h3, h4, h5, h6⟩
  · have hz : ss = [] := List.eq_nil_of_length_eq_zero h0
    subst hz
    refine (AnyG.slices_Compact_int_empty compactI none 0 w1).mono ?_
    rintro e w2 ⟨rfl, rfl⟩
    exact ⟨_, rfl, Or.inl ⟨rfl, rfl⟩, hb⟩
  · have hH : Holds (Value.int .i64) w1 g 0 ss.toArray := holds_of_blockI hgb (by simpa [intsV] using h6)
    have hgl : g < w1.heap.size := (Array.getElem?_eq_some_iff.1 hgb).1
    refine (AnyG.slices_Compact_int compactI g 0 cap ss w1 hH (by omega) h3).mono ?_
    rintro e w2 ⟨rfl, q, rfl⟩
    obtain ⟨ts, hts⟩ : ∃ ts, ts = Lib.compact ss ++ List.replicate (ss.length - (Lib.compact ss).length) 0 := ⟨_, rfl⟩
    rw [← hts]
    have hcl : (Lib.compact ss).length ≤ ss.length := by
      unfold Lib.compact Lib.compactUpTo
      rw [List.length_map]
      exact Nat.le_trans (List.length_filter_le _ _) (by simp)
    have htl : ts.length = ss.length := by rw [hts]; simp; omega
    have hg := grownBy_sortedI (w := w1) (g := g) (n := q) (os := #[]) ts.toArray
    have hn := heap_sortedI (w := w1) (g := g) (n := q) (os := #[]) ts.toArray hgb
    rw [grow_empty] at hg hn
    refine ⟨_, rfl, Or.inr ⟨g, 0, cap, rfl, Nat.lt_of_lt_of_le hgl hg.size, fun j hj => ?_⟩, hb.grown hg hb.size (fun j hj => by cases hj; exact hbase)⟩
    have htk := take_putCellsI cur ts (by omega)
    have h7 : ((putCells (Value.int .i64) 0 ts.toArray cur).toList.take ts.length)[j]? = (ts.map (Value.int .i64))[j]? := by rw [htk]
    rw [List.getElem?_take_of_lt (by omega), List.getElem?_map, hts, List.getElem?_append_left hj, ← hts] at h7
    simp only [World.cell?, hn, Nat.zero_add]
    simp only [Option.isSome_none, Bool.false_eq_true, if_false]
    rw [← Array.getElem?_toList, h7]
    simp [hj]

set_option maxHeartbeats 2000000 in
theorem moved_any (nb sp : Int) (sv : Value) (zs : List Int) (w : World) (h : Ints w.heap.size w sv zs) (hl : zs.length ≤ 900) :
    Calls Try.prog 14 #[.agg #[.int .i64 nb, .int .i64 sp, sv]] w fun e w' => (∃ v l, e = .returned v ∧ Ints w'.heap.size w' v l ∧ MovedIs zs l) ∧ Below w.heap.size w w' := by
  obtain ⟨a, c, rfl⟩ := h.len
  have hsr := compact_sorted zs
  obtain ⟨ss, hss⟩ : ∃ ss, ss = zs.mergeSort fun x y => decide (x ≤ y) := ⟨_, rfl⟩
  have hsl : ss.length = zs.length := by rw [hss]; simp
  rw [← hss] at hsr
  have HSL := Lib.hid hsl
  have HSS := Lib.hid hss
  clear hsl hss
  go_enter Try.func14, Try.ntmps14
  go_upto_region 1 with (fail)
  have hB1 : Below w.heap.size w (w.alloc (.cells #[.int .i64 nb, .int .i64 sp, .slice a zs.length c] 25)) := (Below.refl _ w).alloc (Nat.le_refl _) _
  have c2 : (w.alloc (.cells #[.int .i64 nb, .int .i64 sp, .slice a zs.length c] 25)).cell? ⟨w.heap.size, 2, none⟩ = some (.slice a zs.length c) := by rw [World.cell?_alloc_at _ _ _ _ rfl]; rfl
  have hI1 : Ints (w.alloc (.cells #[.int .i64 nb, .int .i64 sp, .slice a zs.length c] 25)).heap.size (w.alloc (.cells #[.int .i64 nb, .int .i64 sp, .slice a zs.length c] 25)) (.slice a zs.length c) zs := h.kept hB1
  obtain ⟨w1, hw1⟩ : ∃ w1, w1 = w.alloc (.cells #[.int .i64 nb, .int .i64 sp, .slice a zs.length c] 25) := ⟨_, rfl⟩
  rw [← hw1] at hB1 c2 hI1 ⊢
  clear hw1
  have hB2 : Below w1.heap.size w1 (w1.alloc (.cells #[.slice a zs.length c] 23)) := (Below.refl _ w1).alloc (Nat.le_refl _) _
  have hI2 := hI1.kept hB2
  have cz : (w1.alloc (.cells #[.slice a zs.length c] 23)).cell? ⟨w1.heap.size, 0, none⟩ = some (.slice a zs.length c) := by simp
  have cS := sorted_any w1.heap.size (.slice a zs.length c) zs (by omega) (w1.alloc (.cells #[.slice a zs.length c] 23)) (by simp) cz hI2
  rw [← HSS.out] at cS
  go_wp2_with (first
    | (go_at_call 27; refine (vals_any a zs.length c w1).mono ?_; rintro e w2 ⟨rfl, rfl⟩)
    | (go_at_call 26; refine cS.mono ?_; rintro e w3 ⟨v, rfl, hrow, hb3⟩)
    | (go_at_call 28; refine (compact_any v ss (by have := HSL.out; omega) (w1.alloc (.cells #[.slice a zs.length c] 23)) w3 (by rw [HSL.out]; exact hrow) hb3).mono ?_; rintro e w4 ⟨v4, rfl, hI4, hb4⟩))
  go_ret
  exact ⟨⟨_, _, rfl, hI4, hsr⟩, hB1.trans ((hB2.trans (hb4.mono hB2.size)).mono hB1.size)⟩

end Go.Proofs.Ytblleinahlaohaa
