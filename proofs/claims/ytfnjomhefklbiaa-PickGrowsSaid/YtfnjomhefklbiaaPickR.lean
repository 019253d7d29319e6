/-
  The walks of treenailref19: ahead and Order.
-/
import Derived.Test.YtfnjomhefklbiaaPickP
import Derived.OwnWalk
namespace Go.Proofs.Ytfnjomhefklbiaa
open Go.RowKit

set_option maxHeartbeats 1000000 in
theorem ref_ahead (ao : Option Addr) (cap : Nat) (l : List Int) (i k : Nat) (w : World) (hs : IntsAt w ao l) (hi : i < l.length) (hk : k < l.length) :
    Calls Try.prog 32 #[.slice ao l.length cap, .int .i64 i, .int .i64 k] w fun e w' => e = .returned (.bool (ahead ((i : Int), l[i]) ((k : Int), l[k]))) ∧ ∃ m, w' = w.drewN m := by
  obtain ⟨b, off, rfl, hb, hc⟩ := hs.at (by omega)
  have ci := hc i hi 0 _ rfl
  have ck := hc k hk 0 _ rfl
  simp only [Nat.mul_one, Nat.add_zero] at ci ck
  generalize l[i] = a2 at *
  generalize l[k] = b2 at *
  have hi0 : (0 : Int) ≤ (i : Int) := Int.natCast_nonneg _
  have hi1 : (i : Int) < (l.length : Int) := by omega
  have hk0 : (0 : Int) ≤ (k : Int) := Int.natCast_nonneg _
  have hk1 : (k : Int) < (l.length : Int) := by omega
  clear hc hs
  by_cases h1 : b2 < a2
  · have Hv := Lib.hid (show ahead ((i : Int), a2) ((k : Int), b2) = true by simp [ahead, h1])
    go_enter Try.func32, Try.ntmps32
    go_wp2_with fail
    go_quiet (fail)
    go_wp2_with fail
    go_ret
    exact ⟨ret_bool (by rw [Hv.out]), ⟨_, rfl⟩⟩
  · have h1' : decide (b2 < a2) = false := by simpa using h1
    clear h1
    by_cases h2 : a2 = b2
    · subst h2
      have Hv := Lib.hid (show ahead ((i : Int), a2) ((k : Int), a2) = decide ((i : Int) < (k : Int)) by simp [ahead])
      go_enter Try.func32, Try.ntmps32
      go_wp2_with fail
      go_quiet (fail)
      go_wp2_with fail
      go_ret
      exact ⟨ret_bool (by rw [Hv.out]; try simp), ⟨_, rfl⟩⟩
    · have Hv := Lib.hid (show ahead ((i : Int), a2) ((k : Int), b2) = false by simp [ahead, h2]; simpa using h1')
      have h2' : (a2 == b2) = false := by simpa using h2
      clear h2
      go_enter Try.func32, Try.ntmps32
      go_wp2_with fail
      go_quiet (fail)
      go_wp2_with fail
      go_ret
      exact ⟨ret_bool (by rw [Hv.out]), ⟨_, rfl⟩⟩

theorem leq_antisymm {a b : Int × Int} (h : Leq a b) (k : Leq b a) : a = b := by
  obtain ⟨a1, a2⟩ := a
  obtain ⟨b1, b2⟩ := b
  unfold Leq at *
  rw [ahead_iff] at *
  simp only [Prod.mk.injEq] at *
  omega

/-- The best one so far of those below k that aren't in r. -/
def BestAt (l r : List Int) (k : Nat) (b : Value) : Prop :=
  (b = .int .i64 (-1) ∧ ∀ j : Nat, j < k → (j : Int) ∈ r) ∨
  ∃ bn : Nat, b = .int .i64 bn ∧ bn < k ∧ (bn : Int) ∉ r ∧ ∀ j : Nat, j < k → (j : Int) ∉ r → Leq (pl (pairs l) bn) (pl (pairs l) j)
theorem pl_pairs (l : List Int) (i : Nat) (h : i < l.length) : pl (pairs l) i = ((i : Int), l[i]) := by
  rw [pl_get (by rw [pairs_length]; exact h), pairs_get]

theorem ordP_apart (l : List Int) : (ordP l).Pairwise (fun a b => a.1 ≠ b.1) := by
  refine ((ordP_spec l).1.pairwise_iff (fun h => Ne.symm h)).2 (List.pairwise_iff_getElem.2 fun i j hi hj hij => ?_)
  rw [pairs_get, pairs_get]
  simp only [ne_eq]
  omega

theorem best_is {l r : List Int} {b : Value} (hr : r = ((ordP l).map Prod.fst).take r.length) (hlt : r.length < l.length) (hB : BestAt l r l.length b) :
    ∃ bn : Nat, b = .int .i64 bn ∧ bn < l.length ∧ r ++ [(bn : Int)] = ((ordP l).map Prod.fst).take (r.length + 1) := by
  have hol := ordP_length l
  obtain ⟨hp, hpw⟩ := ordP_spec l
  have hy : (ordP l)[r.length]'(by omega) ∈ pairs l := hp.subset (List.getElem_mem _)
  obtain ⟨j, hj, hje⟩ := List.getElem_of_mem hy
  rw [pairs_get] at hje
  rw [pairs_length] at hj
  have hjr : (j : Int) ∉ r := by
    intro hm
    rw [hr] at hm
    obtain ⟨p, hp1, hp2⟩ := List.getElem_of_mem hm
    rw [List.getElem_take, List.getElem_map] at hp2
    rw [List.length_take, List.length_map] at hp1
    have := List.pairwise_iff_getElem.1 (ordP_apart l) p r.length (by omega) (by omega) (by omega)
    rw [hp2, ← hje] at this
    exact this rfl
  have hlast : ∀ bn : Nat, ((ordP l)[r.length]'(by omega)).1 = (bn : Int) → r ++ [(bn : Int)] = ((ordP l).map Prod.fst).take (r.length + 1) := by
    intro bn e
    rw [List.take_succ_eq_append_getElem (by rw [List.length_map]; omega), ← hr, List.getElem_map, e]
  rcases hB with ⟨_, h1⟩ | ⟨bn, rfl, hbn, hbr, hbest⟩
  · exact absurd (h1 j hj) hjr
  · refine ⟨bn, rfl, hbn, hlast bn ?_⟩
    have h1 := hbest j hj hjr
    rw [pl_pairs l bn hbn, pl_pairs l j hj, hje] at h1
    have hmem : ((bn : Int), l[bn]) ∈ ordP l := hp.symm.subset (by rw [← pairs_get l bn (by rw [pairs_length]; exact hbn)]; exact List.getElem_mem _)
    obtain ⟨p, hp1, hp2⟩ := List.getElem_of_mem hmem
    have hpr : r.length ≤ p := by
      refine Nat.le_of_not_lt fun hlt' => hbr ?_
      rw [hr]
      refine List.mem_of_getElem (i := p) (h := by rw [List.length_take, List.length_map]; omega) ?_
      rw [List.getElem_take, List.getElem_map, hp2]
    have h2 : Leq ((ordP l)[r.length]'(by omega)) ((bn : Int), l[bn]) := by
      by_cases e : p = r.length
      · subst e; rw [hp2]; exact Leq.refl _
      · rw [← hp2]; exact List.pairwise_iff_getElem.1 hpw r.length p (by omega) hp1 (by omega)
    rw [leq_antisymm h2 h1]

theorem BestAt.start (l r : List Int) : BestAt l r 0 (.int .i64 (-1)) := Or.inl ⟨rfl, fun j h => by omega⟩
theorem BestAt.skip {l r : List Int} {k : Nat} {b : Value} (h : BestAt l r k b) (hk : (k : Int) ∈ r) : BestAt l r (k + 1) b := by
  rcases h with ⟨e, h1⟩ | ⟨bn, e, h1, h2, h3⟩
  · refine Or.inl ⟨e, fun j hj => ?_⟩
    by_cases hjk : j = k
    · rw [hjk]; exact hk
    · exact h1 j (by omega)
  · refine Or.inr ⟨bn, e, by omega, h2, fun j hj hjr => ?_⟩
    by_cases hjk : j = k
    · rw [hjk] at hjr; exact absurd hk hjr
    · exact h3 j (by omega) hjr
theorem BestAt.first {l r : List Int} {k : Nat} (h : ∀ j : Nat, j < k → (j : Int) ∈ r) (hk : (k : Int) ∉ r) : BestAt l r (k + 1) (.int .i64 k) := by
  refine Or.inr ⟨k, rfl, by omega, hk, fun j hj hjr => ?_⟩
  by_cases hjk : j = k
  · rw [hjk]; exact Leq.refl _
  · exact absurd (h j (by omega)) hjr
theorem BestAt.stay {l r : List Int} {k bn : Nat} (h1 : bn < k) (h2 : (bn : Int) ∉ r) (h3 : ∀ j : Nat, j < k → (j : Int) ∉ r → Leq (pl (pairs l) bn) (pl (pairs l) j)) (hk : Leq (pl (pairs l) bn) (pl (pairs l) k)) : BestAt l r (k + 1) (.int .i64 bn) := by
  refine Or.inr ⟨bn, rfl, by omega, h2, fun j hj hjr => ?_⟩
  by_cases hjk : j = k
  · rw [hjk]; exact hk
  · exact h3 j (by omega) hjr
theorem BestAt.turn {l r : List Int} {k bn : Nat} (h3 : ∀ j : Nat, j < k → (j : Int) ∉ r → Leq (pl (pairs l) bn) (pl (pairs l) j)) (hkr : (k : Int) ∉ r) (hk : Leq (pl (pairs l) k) (pl (pairs l) bn)) : BestAt l r (k + 1) (.int .i64 k) := by
  refine Or.inr ⟨k, rfl, by omega, hkr, fun j hj hjr => ?_⟩
  by_cases hjk : j = k
  · rw [hjk]; exact Leq.refl _
  · exact hk.trans (h3 j (by omega) hjr)

def usedV (n : Nat) (u : List Int) : List Value := (List.range n).map fun i : Nat => .bool (decide ((i : Int) ∈ u))
theorem usedV_length (n : Nat) (u : List Int) : (usedV n u).length = n := by simp [usedV]
theorem usedV_get (n : Nat) (u : List Int) (i : Nat) (h : i < n) : (usedV n u)[i]? = some (.bool (decide ((i : Int) ∈ u))) := by simp [usedV, h]
theorem usedV_set (n : Nat) (u : List Int) (i : Nat) : (usedV n u).set i (.bool true) = usedV n (u ++ [(i : Int)]) := by
  apply List.ext_getElem?
  intro j
  rw [List.getElem?_set, usedV_length]
  by_cases hj : j < n
  · rw [usedV_get _ _ _ hj, usedV_get _ _ _ hj]
    by_cases e : i = j
    · subst e; simp [hj]
    · rw [if_neg e]
      have : ¬ (j : Int) = (i : Int) := by omega
      simp [this]
  · rw [List.getElem?_eq_none (by rw [usedV_length]; omega), List.getElem?_eq_none (by rw [usedV_length]; omega)]
    split
    · rw [if_neg (by omega)]
    · rfl

/-- What the document's order has in memory. -/
structure RefAt (w0 : World) (ub n : Nat) (r u : List Int) (v : Value) (wr : World) : Prop where
  own : wr.ownsRow w0.heap.size 3 1 v r.length (intsV r)
  used : wr.ownsRow w0.heap.size 4 1 (.slice (some ⟨ub, 0, none⟩) n n) n (usedV n u)
  apart : v.ownBlock ≠ some ub
  below : Below w0.heap.size w0 wr
  len : sliceLen v = r.length
theorem RefAt.drewN {w0 : World} {ub n : Nat} {r u : List Int} {v : Value} {wr : World} (h : RefAt w0 ub n r u v wr) (m : Nat) : RefAt w0 ub n r u v (wr.drewN m) :=
  ⟨h.own, h.used, h.apart, h.below.trans ⟨rfl, rfl, rfl, Nat.le_refl _, fun _ _ => rfl⟩, h.len⟩
theorem RefAt.mark {w0 : World} {ub n : Nat} {r u : List Int} {v : Value} {wr : World} (h : RefAt w0 ub n r u v wr) (i : Nat) : RefAt w0 ub n r (u ++ [(i : Int)]) v (wr.setCell ⟨ub, i, none⟩ (.bool true)) := by
  obtain ⟨h1, h2⟩ := h.used.stored i (.bool true)
  rw [usedV_set] at h1
  have hub := (h.used.lt ub rfl).1
  exact ⟨h.own.kept h2 (Or.inr h.apart), h1, h.apart, h.below.trans ⟨rfl, rfl, rfl, by simp, fun k hk => Below.heap_setCell _ _ _ _ (by show k ≠ ub; omega)⟩, h.len⟩
theorem RefAt.more {w0 : World} {ub n : Nat} {r u : List Int} {v v' : Value} {wr w1 : World} (h : RefAt w0 ub n r u v wr) (x : Int) (t : TypeId) (hown : w1.ownsRow w0.heap.size 3 1 v' (r.length + 1) (intsV r ++ [.int .i64 x])) (hgrow : (wr.alloc (.cells #[.int .i64 x] t)).grownBy w1 v.ownBlock)
    (hat : v'.ownBlock = v.ownBlock ∨ v'.ownBlock = some (wr.alloc (.cells #[.int .i64 x] t)).heap.size) : RefAt w0 ub n (r ++ [x]) u v' w1 := by
  have hub := h.used.lt ub rfl
  refine ⟨by rw [intsV_snoc, List.length_append, List.length_singleton]; exact hown, (h.used.alloc _).kept hgrow (Or.inr (fun e => h.apart e.symm)), ?_, ?_, ?_⟩
  · rcases hat with e | e <;> rw [e]
    · exact h.apart
    · intro e; simp at e; omega
  · exact h.below.trans ((Below.alloc (Below.refl _ _) h.below.size _).trans ⟨hgrow.os, hgrow.tape, hgrow.output, hgrow.size, fun k hk => hgrow.block k (Nat.lt_of_lt_of_le hk (Nat.le_trans h.below.size (by simp))) (fun e => by have := (h.own.lt k e.symm).1; omega)⟩)
  · obtain ⟨g', c', rfl⟩ := hown.slice (by omega)
    simp [sliceLen]
theorem RefAt.form {w0 : World} {ub n : Nat} {r u : List Int} {v : Value} {wr : World} (h : RefAt w0 ub n r u v wr) : ∃ ao c', v = .slice ao r.length c' := by
  rcases h.own.2 with ⟨e, hn⟩ | ⟨g, cap, cur, hv, _⟩
  · exact ⟨none, 0, by rw [e, hn]⟩
  · exact ⟨_, _, hv⟩
theorem bool_info : (Try.prog.info? 4).map (fun i => (i.zero, i.size, i.bytes)) = some (some (.bool false), 1, 1) := by kernel_rfl
theorem RefAt.start {w w1 : World} {n : Nat} (h : w1.ownsRow w.heap.size 4 1 (.slice (some ⟨w.heap.size, 0, none⟩) n n) n (madeCells (Value.bool false).cells (n * 1)).toList) (hg : w.grownBy w1 none) : RefAt w w.heap.size n [] [] (.slice none 0 0) w1 := by
  refine ⟨World.ownsRow_nil _ _ _ _, ?_, by simp [Value.ownBlock], ⟨hg.os, hg.tape, hg.output, hg.size, fun k hk => hg.block k hk (by simp)⟩, rfl⟩
  have : (madeCells (Value.bool false).cells (n * 1)).toList = usedV n [] := by
    rw [show (Value.bool false).cells = #[.bool false] from rfl, toList_madeCells_one, Nat.mul_one]
    apply List.ext_getElem?
    intro j
    by_cases hj : j < n
    · rw [usedV_get _ _ _ hj]; simp [hj]
    · rw [List.getElem?_eq_none (by rw [List.length_replicate]; omega : (List.replicate n (Value.bool false)).length ≤ j), List.getElem?_eq_none (by rw [usedV_length]; omega : (usedV n []).length ≤ j)]
  rw [this] at h
  exact h

set_option maxHeartbeats 2000000 in
theorem ref_order (ao : Option Addr) (cap : Nat) (l : List Int) (w : World) (hs : IntsAt w ao l) (hl : l.length ≤ 1000000) :
    Calls Try.prog 20 #[.slice ao l.length cap] w fun e w' => ∃ v, e = .returned v ∧ Out w.heap.size v (topL l l.length) w' ∧ Below w.heap.size w w' := by
  obtain ⟨i0, hi, hz0, hz1, hz2⟩ := info_parts int_info
  obtain ⟨j0, hj, hy0, hy1, hy2⟩ := info_parts bool_info
  go_enter Try.func20, Try.ntmps20
  go_wp2_with (at_make; refine wpList_make_full _ rfl _ _ 68 rfl w.heap.size 4 j0 (.bool false) 1 Try.underlying68 hj hy0 hy1 .i64 .i64 _ _ l.length rfl rfl rfl rfl (by rw [hy2]; omega) (by unfold maxLen; omega) (Nat.le_refl _) ?_; intro w0 hown0 hgrow0; have hR0 := RefAt.start hown0 hgrow0)
  go_loopw [3, 5] (fun v i wr => ∃ r : List Int, i = .int .i64 r.length ∧ r.length ≤ l.length ∧ Hid (r = ((ordP l).map Prod.fst).take r.length) ∧ RefAt w w.heap.size l.length r r v wr) (fun _ i _ => l.length - (intOf i).toNat)
  case atStart => exact ⟨[], rfl, Nat.zero_le _, Lib.hid (by simp), hR0⟩
  case round =>
    obtain ⟨r, rfl, hrl, hr, hR⟩ := hrel
    obtain ⟨ao', c', rfl⟩ := hR.form
    have hlen := hR.len
    by_cases hlt : r.length < l.length
    · have hlt' : (r.length : Int) < (l.length : Int) := by omega
      obtain ⟨b, off, rfl, hb, hc⟩ := hs.at (by omega)
      go_wp2_with fail
      go_loopw [6, 7] (fun b i wi => ∃ k m : Nat, i = .int .i64 k ∧ k ≤ l.length ∧ wi = wr.drewN m ∧ BestAt l r k b) (fun _ i _ => l.length - (intOf i).toNat)
      case atStart => exact ⟨0, 0, rfl, Nat.zero_le _, rfl, BestAt.start l r⟩
      case round =>
        obtain ⟨k, m, rfl, hk, rfl, hB⟩ := hrel
        have hk0 : (0 : Int) ≤ (k : Int) := Int.natCast_nonneg _
        by_cases hkl : k < l.length
        · have hk1 : (k : Int) < (l.length : Int) := by omega
          have hu := hR.used.cellAt k (by omega)
          rw [usedV_get _ _ _ hkl] at hu
          by_cases hkr : (k : Int) ∈ r
          · rw [decide_eq_true hkr] at hu
            have hB' := hB.skip hkr
            go_wp2_with fail
            go_roundw
            case rel => exact ⟨k + 1, m, by go_num, by omega, rfl, hB'⟩
            case measure => first | (simp [intOf]; done) | (simp [intOf]; omega)
          · rw [decide_eq_false hkr] at hu
            rcases hB with ⟨rfl, h1⟩ | ⟨bn, rfl, hbn, hbr, hbest⟩
            · have hB' := BestAt.first (l := l) h1 hkr
              go_wp2_with fail
              go_roundw
              case rel => exact ⟨k + 1, m, by go_num, by omega, rfl, hB'⟩
              case measure => first | (simp [intOf]; done) | (simp [intOf]; omega)
            · have hbn0 : ¬ ((bn : Int) < 0) := by omega
              go_wp2_with fail
              have hbl : bn < l.length := by omega
              refine (ref_ahead _ cap l k bn _ (hs.kept (hR.drewN m).below (Nat.le_refl _)) hkl hbl).mono ?_
              rintro e w2 ⟨rfl, m2, rfl⟩
              rw [← pl_pairs l k hkl, ← pl_pairs l bn hbl]
              cases hA : ahead (pl (pairs l) k) (pl (pairs l) bn) with
              | true =>
                have hB' := BestAt.turn hbest hkr (Leq.of hA)
                clear hA
                go_wp2_with fail
                go_roundw
                case rel => exact ⟨k + 1, m + m2, by go_num, by omega, by first | rfl | simp, hB'⟩
                case measure => first | (simp [intOf]; done) | (simp [intOf]; omega)
              | false =>
                have hB' := BestAt.stay hbn hbr hbest (by unfold Leq; rw [hA]; simp)
                clear hA
                go_wp2_with fail
                go_roundw
                case rel => exact ⟨k + 1, m + m2, by go_num, by omega, by first | rfl | simp, hB'⟩
                case measure => first | (simp [intOf]; done) | (simp [intOf]; omega)
        · have hk' : k = l.length := by omega
          subst hk'
          obtain ⟨bn, rfl, hbn, hnext⟩ := best_is hr.out hlt hB
          have hnext' := Lib.hid hnext
          clear hnext hB
          have hbn0 : (0 : Int) ≤ (bn : Int) := Int.natCast_nonneg _
          have hbn1 : (bn : Int) < (l.length : Int) := by omega
          have hu := hR.used.cellAt bn (by omega)
          rw [usedV_get _ _ _ hbn] at hu
          have huf := hR.used.frozenAt bn
          have hM := (hR.drewN m).mark bn
          have hBS : w.heap.size ≤ (((wr.drewN m).setCell ⟨w.heap.size, bn, none⟩ (.bool true)).alloc (.cells #[.int .i64 bn] 3)).heap.size := by have := hM.below.size; simp at this ⊢; omega
          have hn1 := hM.own.alloc (.cells #[.int .i64 bn] 3)
          have hcn : ∀ j u, [Value.int .i64 (bn : Int)][j]? = some u → (((wr.drewN m).setCell ⟨w.heap.size, bn, none⟩ (.bool true)).alloc (.cells #[.int .i64 bn] 3)).cell? ((⟨wr.heap.size, 0, none⟩ : Addr).add j) = some u := by
            have h := cell_one_new ((wr.drewN m).setCell ⟨w.heap.size, bn, none⟩ (.bool true)) (.int .i64 bn) 3
            rw [World.size_setCell] at h
            exact h
          go_wp2_with (at_builtin; refine wpList_append_own_at _ rfl _ _ 27 rfl w.heap.size 3 i0 (.int .i64 0) 1 8 Try.underlying27 hi hz0 hz1 hz2 rfl (by decide) _ r.length _ rfl hn1 ⟨wr.heap.size, 0, none⟩ 1 1 [.int .i64 bn] rfl rfl hcn (by intro u hu; simp at hu; subst hu; rfl) (by unfold maxLen; omega) (by omega) hBS ?_; intro v' w4 hown' hgrow hnil hat; have O4 := hM.more _ _ hown' hgrow hat; rcases hown'.slice (by omega) with ⟨g', c'', rfl⟩)
          go_roundw
          case rel => exact ⟨r ++ [(bn : Int)], by rw [List.length_append, List.length_singleton]; go_num, by rw [List.length_append, List.length_singleton]; omega, Lib.hid (by rw [List.length_append, List.length_singleton]; exact hnext'.out), O4⟩
          case measure => first | (simp [intOf]; done) | (simp [intOf]; omega)
    · have hrl' : r.length = l.length := by omega
      have hlt' : ¬ (r.length : Int) < (l.length : Int) := by omega
      have hT : Hid (r = topL l l.length) := Lib.hid (by
        have h := hr.out
        rw [hrl'] at h
        rw [topL_eq]; exact h)
      clear hrl'
      go_wp2_with fail
      go_ret
      exact ⟨_, rfl, by rw [← hT.out]; exact ⟨hR.own, hR.len⟩, hR.below⟩
end Go.Proofs.Ytfnjomhefklbiaa
