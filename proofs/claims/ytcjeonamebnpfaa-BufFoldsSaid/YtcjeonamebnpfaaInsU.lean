/-
  The walk of slices.Insert of one element into a row of the call's own, at updates.
-/
import Derived.Test.YtcjeonamebnpfaaCloneU
import Derived.Lib.Walk
namespace Go.Proofs.Ytcjeonamebnpfaa
open Go.RowKit

theorem sizeU : (Try.prog.info? 31).map (·.size) = some 4 := by kernel_rfl

/-- What is in the row behind it. -/
def insU (l : List Upd) (i : Nat) (x : Upd) : List Upd := l.take i ++ x :: l.drop i

set_option maxRecDepth 100000 in
set_option maxHeartbeats 2000000 in
theorem insEndU (B : Nat) (v : Value) (l : List Upd) (x : Upd) (vb : Nat) (w : World) (hown : w.ownsRow B 31 4 v l.length (cellsU l)) (hB : B ≤ w.heap.size) (hl : l.length ≤ 1000000)
    (hx : RowIs w 31 vb (Upd.cells x)) :
    Calls Try.prog 48 #[v, .int .i64 l.length, .slice (some ⟨vb, 0, none⟩) 1 1] w fun e w' => (∃ v', e = .returned v' ∧ w'.ownsRow B 31 4 v' (l.length + 1) (cellsU (l ++ [x])) ∧ w.grownBy w' v.ownBlock ∧ (v'.ownBlock = v.ownBlock ∨ v'.ownBlock = some w.heap.size)) := by
  obtain ⟨i0, hi, hz0, hz1, hz2⟩ := info_parts infoU
  obtain ⟨ao, c, rfl, hlc⟩ : ∃ ao c, v = .slice ao l.length c ∧ l.length ≤ c := by
    rcases ownsRow_open hown with ⟨rfl, h0, -⟩ | ⟨g, cap, cur, rfl, -, -, h3, -⟩
    · exact ⟨none, 0, by rw [h0], by omega⟩
    · exact ⟨_, _, rfl, h3⟩
  obtain ⟨X, hX⟩ : ∃ X, ∀ w, (Instr.slice 24 (.slice ao l.length c) (some (.int .i64 (l.length : Int))) none none).run Try.prog w = .ok X w :=
    ⟨_, fun w => by rw [run_slice_l w 24 ao l.length c (by exact Try.underlying24) .i64 l.length (by omega) (by omega)]; rfl⟩
  have hl0 : ((1 : Int) == 0) = false := rfl
  go_enter Try.func48, Try.ntmps48
  go_wp2_with (at_builtin; refine wpList_append_own_at _ rfl _ _ 24 rfl B 31 i0 (.agg #[.int .u8 0, .string ByteArray.empty, .string ByteArray.empty, .int .u64 0]) 4 48 Try.underlying24 hi hz0 hz1 hz2 rfl (by decide) _ l.length _ rfl hown ⟨vb, 0, none⟩ 1 1 (Upd.cells x) rfl rfl (hx.cells 0 _ fun j v hv => by rw [Nat.zero_add]; exact hv) (by rw [← cellsU_one]; exact cellsU_oneCell _) (by unfold maxLen; omega) (by omega) hB ?_; intro v' w1 hown' hgrow hnil' hat)
  go_ret
  exact ⟨_, rfl, by rw [cellsU_append, cellsU_one]; exact hown', hgrow, hat⟩

theorem insRowU {cur zs : List Value} {i G k : Nat} (h : i * k ≤ cur.length) (hz : zs.length = (G - i) * k) (hi : i ≤ G) : (cur.take (i * k) ++ zs).length = G * k := by
  rw [List.length_append, List.length_take, hz, Nat.sub_mul]
  have := Nat.mul_le_mul_right k hi
  omega

set_option maxRecDepth 100000 in
set_option maxHeartbeats 2000000 in
theorem insGrowU (B g cap : Nat) (cur : List Value) (l : List Upd) (i : Nat) (x : Upd) (vb : Nat) (w : World) (hrow : RowIs w 31 g cur) (hcur : cur = cellsU l) (hil : i < l.length) (hcl : cap = l.length) (hB : B ≤ w.heap.size) (hl : l.length ≤ 1000000)
    (hx : RowIs w 31 vb (Upd.cells x)) :
    Calls Try.prog 48 #[.slice (some ⟨g, 0, none⟩) l.length cap, .int .i64 i, .slice (some ⟨vb, 0, none⟩) 1 1] w fun e w' => (∃ v', e = .returned v' ∧ w'.ownsRow B 31 4 v' (l.length + 1) (cellsU (insU l i x)) ∧ w.grownBy w' none ∧ v'.ownBlock = some w.heap.size) := by
  obtain ⟨i0, hi, hz0, hz1, hz2⟩ := info_parts infoU
  have hcurl : cur.length = l.length * 4 := by rw [hcur, cellsU_len]
  have hg := hrow.lt
  have hv := hx.lt
  have hne : ((i : Int) == (l.length : Int)) = false := by rw [beq_eq_false_iff_ne]; omega
  have hi1 : (i : Int) < (l.length : Int) := by omega
  have hi0 : (0 : Int) ≤ (i : Int) := by omega
  have hci : ¬ cap = i := by omega
  have hc1 : (cap : Int) < (l.length : Int) + 1 := by omega
  have hc2 : (l.length : Int) ≤ (cap : Int) := by omega
  have hk : (l.length : Int) + 1 - (i : Int) = ((l.length + 1 - i : Nat) : Int) := by omega
  have hkk := Lib.hid hk
  have hxl : (Upd.cells x).length = 4 := rfl
  have hcur' := Lib.hid hcur
  have hcl' := Lib.hid hcl
  clear hk hcur hcl
  go_enter Try.func48, Try.ntmps48
  go_wp2_with (first | (at_builtin; refine wpList_append_zeros _ rfl _ _ 24 3 rfl 31 i0 (.agg #[.int .u8 0, .string ByteArray.empty, .string ByteArray.empty, .int .u64 0]) 4 48 Try.underlying24 Try.underlying3 hi hz0 hz1 hz2 rfl (by decide) (by decide) g i cap cur hrow rfl (l.length + 1 - i) (by rw [← hkk.out]; rfl) (by omega) (by omega) (by rw [hcl'.out]; omega) (l.length + 1) (by omega) (by omega) ?_; intro w1 G zs hr1 hzs hG hGm hg1; have tokG : True := trivial; unfold maxLen at hGm; have hGi : ¬ G = i := (by omega); have hGi1 : ¬ G = i + 1 := (by omega); have hx1 := hx.kept hg1 (by simp); have hrow1 := hrow.kept hg1 (by simp); have hzl := Lib.hid hzs; clear hzs; have hrl' := Lib.hid (insRowU (cur := cur) (k := 4) (by rw [hcurl]; exact Nat.mul_le_mul_right _ (Nat.le_of_lt hil)) hzl.out (by omega))) | (with_reducible show wpList _ _ _ (Oper.mk (some 45) _ _ _ _ _ :: _) _ _; go_must (refine wpList_copyK _ rfl (.tmp 43) (.tmp 44) 24 24 rfl 31 4 Try.underlying24 sizeU w.heap.size (i * 4) (l.length + 1 - i) (G - i) ⟨vb, 0, none⟩ 1 1 rfl rfl _ (Upd.cells x) 1 hr1 (by simp only [Nat.min_def]; split <;> omega) rfl (hx1.cells 0 _ fun j v hv => by rw [Nat.zero_add]; exact hv) ?hfit (by rw [← cellsU_one]; exact cellsU_oneCell _) ?_; (case hfit => (rw [hrl'.out, hxl]; omega)); intro w2 hr2 hg2; have hrow2 := hrow1.kept hg2 (by simp; omega))))
  have hol := Lib.hid ((over_len (cur := cur.take (i * 4) ++ zs) (cs := Upd.cells x) (o := i * 4) (by rw [hrl'.out, hxl]; omega)).trans hrl'.out)
  have hw1 : IntKind.i64.wrap ((i : Int) + 1) = (i : Int) + 1 := IntWalk.i64_in _ (by omega)
  have hb1 : (0 : Int) ≤ (i : Int) + 1 := by omega
  have hin : i ≤ l.length := by omega
  have hb3 : (i : Int) ≤ (l.length : Int) := by omega
  have htn : ((i : Int) + 1).toNat = i + 1 := by omega
  have hdl : (cur.drop (i * 4)).length = (l.length - i) * 4 := by rw [List.length_drop, hcurl, Nat.sub_mul]
  have hdl' := Lib.hid hdl
  clear hdl hzl hrl'
  go_region_law (refine step_copyK rfl _ _ 24 24 rfl 31 4 Try.underlying24 sizeU w.heap.size ((i + 1) * 4) (l.length + 1 - (i + 1)) (G - (i + 1)) ⟨g, i * 4, none⟩ (l.length - i) (cap - i) (by simp [Act.eval, Act.put]) (by simp [Act.eval, Act.put]) _ (cur.drop (i * 4)) (l.length - i) hr2.drew (by simp only [Nat.min_def]; split <;> omega) hdl'.out (hrow2.drew.cells _ _ fun j v hv => by rwa [List.getElem?_drop] at hv) ?hfit2 (by rw [hcur'.out]; exact fun v hv => cellsU_oneCell _ v (List.mem_of_mem_drop hv)) ?_; (case hfit2 => (rw [hdl'.out, hol.out]; omega)); intro w3 hr3 hg3)
  go_wp2_with fail
  go_ret
  have hfit3 : (i + 1) * 4 + (cur.drop (i * 4)).length ≤ (over (cur.take (i * 4) ++ zs) (i * 4) (Upd.cells x)).length := by rw [hdl'.out, hol.out]; omega
  refine ⟨_, rfl, ownsRow_shut hB hr3 hG (by unfold maxLen; omega) ((over_len hfit3).trans hol.out) ?_, grown_new (grown_drew (grown_new hg1 hg2 (Nat.le_refl _))) hg3 (Nat.le_refl _), rfl⟩
  rw [over_two (cur.take (i * 4)) zs (Upd.cells x) (cur.drop (i * 4)) (i * 4) ((i + 1) * 4) (by rw [List.length_take, hcurl]; omega) (by rw [hxl]; omega) ((l.length + 1) * 4) (by rw [hdl'.out]; omega)]
  rw [hcur'.out, cellsU_take, cellsU_drop, insU, cellsU_append, ← List.singleton_append, cellsU_append, cellsU_one]

set_option maxRecDepth 100000 in
set_option maxHeartbeats 2000000 in
theorem insShiftU (B g cap : Nat) (cur : List Value) (l : List Upd) (i : Nat) (x : Upd) (vb : Nat) (w : World) (hrow : RowIs w 31 g cur) (hcur : cur.take (l.length * 4) = cellsU l) (hcurl : cur.length = cap * 4) (hil : i < l.length) (hcl : l.length + 1 ≤ cap) (hcm : cap ≤ 9223372036854775807) (hB : B ≤ g) (hl : l.length ≤ 1000000)
    (hx : RowIs w 31 vb (Upd.cells x)) (hvg : vb ≠ g) :
    Calls Try.prog 48 #[.slice (some ⟨g, 0, none⟩) l.length cap, .int .i64 i, .slice (some ⟨vb, 0, none⟩) 1 1] w fun e w' => (∃ v', e = .returned v' ∧ w'.ownsRow B 31 4 v' (l.length + 1) (cellsU (insU l i x)) ∧ w.grownBy w' (some g) ∧ v'.ownBlock = some g) := by
  have hg := hrow.lt
  have hv := hx.lt
  have hne : ((i : Int) == (l.length : Int)) = false := by rw [beq_eq_false_iff_ne]; omega
  have hi1 : (i : Int) < (l.length : Int) := by omega
  have hi0 : (0 : Int) ≤ (i : Int) := by omega
  have hci : ¬ cap = i := by omega
  have hci1 : ¬ cap = i + 1 := by omega
  have hc1 : ¬ (cap : Int) < (l.length : Int) + 1 := by omega
  have hc2 : (l.length : Int) + 1 ≤ (cap : Int) := by omega
  have hov : ∀ lb cb, (callFunc 72 #[.slice (some ⟨vb, 0, none⟩) 1 1, .slice (some ⟨g, (i + 1) * 4, none⟩) lb cb]).run Try.prog w = .ok (.value (.bool false)) w := fun lb cb => by
    rw [run_callFunc_extern Try.func72 (by kernel_rfl) (by kernel_rfl) (by kernel_rfl) (e := Extern.SlicesOverlaps.overlaps #[24, 24] #[4]) (by kernel_rfl),
      Lib.run_overlaps_apart w 24 4 31 Try.underlying24 4 Try.sizeOf31 ⟨vb, 0, none⟩ ⟨g, (i + 1) * 4, none⟩ 1 1 lb cb hvg 31 31 _ _ hx.shape hrow.shape (by omega) (hx.frozen 0) (hx.frozen _)]
    rfl
  have hxl : (Upd.cells x).length = 4 := rfl
  have hw1 : IntKind.i64.wrap ((i : Int) + 1) = (i : Int) + 1 := IntWalk.i64_in _ (by omega)
  have hb1 : (0 : Int) ≤ (i : Int) + 1 := by omega
  have hin : i ≤ l.length := by omega
  have hb3 : (i : Int) ≤ (l.length : Int) := by omega
  have hb4 : (i : Int) ≤ (l.length : Int) + 1 := by omega
  have htn : ((i : Int) + 1).toNat = i + 1 := by omega
  obtain ⟨R, hcurE⟩ : ∃ R, cur = cellsU (l.take i) ++ (cellsU (l.drop i) ++ R) := ⟨cur.drop (l.length * 4), by
    rw [← List.append_assoc, ← cellsU_append, List.take_append_drop, ← hcur, List.take_append_drop]⟩
  have hPl : (cellsU (l.take i)).length = i * 4 := by rw [cellsU_len, List.length_take]; omega
  have hQl : (cellsU (l.drop i)).length = (l.length - i) * 4 := by rw [cellsU_len, List.length_drop]
  have hRl : R.length = (cap - l.length) * 4 := by rw [hcurE, List.length_append, List.length_append, hPl, hQl] at hcurl; omega
  have hQ1 := cellsU_oneCell (l.drop i)
  have hins : cellsU (insU l i x) = cellsU (l.take i) ++ (Upd.cells x ++ cellsU (l.drop i)) := by
    rw [insU, cellsU_append, ← List.singleton_append, cellsU_append, cellsU_one]
  have hins' := Lib.hid hins
  have hcurl' := Lib.hid hcurl
  clear hcur hins hcurl
  generalize cellsU (l.take i) = C at *
  generalize cellsU (l.drop i) = D at *
  have hCl := Lib.hid hPl
  have hDl := Lib.hid hQl
  have hRl' := Lib.hid hRl
  have hcurE' := Lib.hid hcurE
  clear hPl hQl hRl hcurE
  go_enter Try.func48, Try.ntmps48
  go_wp2_with (simp only [hov])
  go_region_law (refine step_copyK rfl _ _ 24 24 rfl 31 4 Try.underlying24 sizeU g ((i + 1) * 4) (l.length + 1 - (i + 1)) (cap - (i + 1)) ⟨g, i * 4, none⟩ (l.length + 1 - i) (cap - i) (by simp [Act.eval, Act.put]) (by simp [Act.eval, Act.put]) _ D (l.length - i) hrow.drew (by simp only [Nat.min_def]; split <;> omega) hDl.out (hrow.drew.cells _ _ fun j v hv => by rw [hcurE'.out, ← hCl.out, List.getElem?_append_right (by omega), Nat.add_sub_cancel_left, List.getElem?_append_left (List.getElem?_eq_some_iff.1 hv).1]; exact hv) (by rw [hDl.out, hcurl'.out]; omega) hQ1 ?_; intro w3 hr3 hg3)
  have hx3 := hx.drew.kept hg3 (by simpa using hvg)
  have hol := Lib.hid ((over_len (cur := cur) (cs := D) (o := (i + 1) * 4) (by rw [hDl.out, hcurl'.out]; omega)).trans hcurl'.out)
  go_wp2_with (with_reducible show wpList _ _ _ (Oper.mk (some 82) _ _ _ _ _ :: _) _ _; refine wpList_copyK _ rfl (.tmp 80) (.tmp 81) 24 24 rfl 31 4 Try.underlying24 sizeU g (i * 4) (l.length + 1 - i) (cap - i) ⟨vb, 0, none⟩ 1 1 rfl rfl _ (Upd.cells x) 1 hr3 (by simp only [Nat.min_def]; split <;> omega) rfl (hx3.cells 0 _ fun j v hv => by rw [Nat.zero_add]; exact hv) ?hfit (by rw [← cellsU_one]; exact cellsU_oneCell _) ?_; (case hfit => (rw [hol.out, hxl]; omega)); intro w4 hr4 hg4)
  go_ret
  refine ⟨_, rfl, ownsRow_shut hB hr4 hcl (by unfold maxLen; omega) ((over_len (by rw [hol.out, hxl]; omega)).trans hol.out) ?_, grown_trans' (grown_undrew hg3) hg4, rfl⟩
  rw [hcurE'.out, hins'.out]
  exact over_gap C D R (Upd.cells x) (i * 4) ((i + 1) * 4) hCl.out (by rw [hxl]; omega) ((l.length + 1) * 4) (by rw [hDl.out]; omega) (by rw [hxl, hRl'.out]; omega)

theorem insertU (B : Nat) (v : Value) (l : List Upd) (i : Nat) (x : Upd) (vb : Nat) (w : World) (hown : w.ownsRow B 31 4 v l.length (cellsU l)) (hB : B ≤ w.heap.size) (hi : i ≤ l.length) (hl : l.length ≤ 1000000)
    (hx : RowIs w 31 vb (Upd.cells x)) (hvb : v.ownBlock ≠ some vb) :
    Calls Try.prog 48 #[v, .int .i64 i, .slice (some ⟨vb, 0, none⟩) 1 1] w fun e w' => (∃ v', e = .returned v' ∧ w'.ownsRow B 31 4 v' (l.length + 1) (cellsU (insU l i x)) ∧ w.grownBy w' v.ownBlock ∧ (v'.ownBlock = v.ownBlock ∨ v'.ownBlock = some w.heap.size)) := by
  by_cases he : i = l.length
  · subst he
    have := insEndU B v l x vb w hown hB hl hx
    rw [insU, List.take_length, List.drop_length]
    exact this
  · rcases ownsRow_open hown with ⟨rfl, h0, -⟩ | ⟨g, cap, cur, rfl, hBg, hr, hn, hm, hc, ht⟩
    · omega
    · have hvg : vb ≠ g := fun e => hvb (by simp [Value.ownBlock, e])
      by_cases hroom : l.length + 1 ≤ cap
      · refine (insShiftU B g cap cur l i x vb w hr ht hc (by omega) hroom (by unfold maxLen at hm; omega) hBg hl hx hvg).mono ?_
        rintro e w' ⟨v', h1, h2, h3, h4⟩
        exact ⟨v', h1, h2, h3, Or.inl h4⟩
      · have hcl : cap = l.length := by omega
        subst hcl
        refine (insGrowU B g l.length cur l i x vb w hr (by rw [← ht, List.take_of_length_le (by omega)]) (by omega) rfl hB hl hx).mono ?_
        rintro e w' ⟨v', h1, h2, h3, h4⟩
        exact ⟨v', h1, h2, ⟨h3.os, h3.tape, h3.output, h3.size, fun k hk _ => h3.block k hk (by simp)⟩, Or.inr h4⟩

end Go.Proofs.Ytcjeonamebnpfaa
