/-
  The walk of slices.Delete of one element of a row of the call's own, at entries.
-/
import Derived.Test.YtcjeonamebnpfaaCloneE
import Derived.Lib.Walk
namespace Go.Proofs.Ytcjeonamebnpfaa
open Go.RowKit

section
variable {P : Program} (w : World)
/-- 'append(s, x...)' where there is room, the row known whole. -/
theorem run_appendK (t ty E : TypeId) (i : TypeInfo) (k g n cap : Nat) (a : Addr) (m c : Nat) (cur : List Value) (news : List Value) (ht : P.underlying t = some (.slice E)) (hi : P.info? E = some i) (hk : i.size = k)
    (hrow : RowIs w E g cur) (hl : news.length = m * k) (hsrc : ∀ j v, news[j]? = some v → w.cell? (a.add j) = some v) (hroom : n + m ≤ cap) (hfit : n * k + news.length ≤ cur.length) (h1 : ∀ v ∈ news, v.oneCell' = true) :
    (Builtin.append_ #[t, t] ty #[.slice (some ⟨g, 0, none⟩) n cap, .slice (some a) m c]).run P w = .ok (.slice (some ⟨g, 0, none⟩) (n + m) cap) (w.setRow g (over cur (n * k) news).toArray) := by
  subst hk
  have hst := run_storeCells_at P g (n * i.size) E news 0 cur.toArray w hrow (by simpa using hfit) h1
  have hf := run_firstCells_some (P := P) w i.size m a m c news hl hsrc
  simp only [Nat.add_zero] at hst
  simp [Builtin.append_, run_underlying ht, sizeOf, typeInfo, hi, Builtin.lenOf, hroom, hf, Addr.add_lit, hst, over]

/-- 'clear(s)' of a part of a row that is known whole. -/
theorem run_clearK (t ty E : TypeId) (z : Value) (k g o n c : Nat) (cur : List Value) (ht : P.underlying t = some (.slice E)) (hz : ∀ w, (zeroValue E).run P w = .ok z w) (hk : z.cells.size = k) (h1 : ∀ v ∈ z.cells.toList, v.oneCell' = true)
    (hrow : RowIs w E g cur) (hn : 0 < n) (hfit : o + n * k ≤ cur.length) :
    ∃ zs : List Value, zs.length = n * k ∧ (Builtin.clear_ #[t] ty #[.slice (some ⟨g, o, none⟩) n c]).run P w = .ok (.tuple #[]) (w.setRow g (over cur o zs).toArray) := by
  have hlen : (Builtin.zeroCells z.cells n).toList.length = n * k := by rw [Array.length_toList, zeroCells_len, hk]
  have hone : ∀ v ∈ (Builtin.zeroCells z.cells n).toList, v.oneCell' = true := by
    intro v hv
    have hm := Array.mem_toList_iff.1 hv
    unfold Builtin.zeroCells at hm
    obtain ⟨j, hj, rfl⟩ := Array.mem_map.1 hm
    have hpos : 0 < z.cells.size := by
      rcases Nat.eq_zero_or_pos z.cells.size with h0 | h0
      · rw [h0, Nat.mul_zero] at hj; simp at hj
      · exact h0
    rw [getElem!_pos z.cells _ (Nat.mod_lt _ hpos)]
    exact h1 _ (Array.mem_toList_iff.2 (Array.getElem_mem _))
  have hst := run_storeCells_at P g o E (Builtin.zeroCells z.cells n).toList 0 cur.toArray w hrow (by rw [hlen]; simpa using hfit) hone
  obtain ⟨m, rfl⟩ : ∃ m, n = m + 1 := ⟨n - 1, by omega⟩
  refine ⟨_, hlen, ?_⟩
  simp only [Nat.add_zero] at hst
  simp [Builtin.clear_, run_underlying ht, hz, hst, over]
end
/-- .. the append as one step of a region that draws. -/
theorem step_appendK {P : Program} {ops : Array Oper} {o : Oper} {a : Act} {w : World} {K : Act → World → Prop} {Q : Exit → Act → World → Prop} {E0 : Prop}
    (hgd : o.guard = none) (d s : Operand) (t : TypeId) (ho : o.op = Op.call { callee := Callee.builtin Builtin.append, args := #[d, s], argTypes := #[t, t] }) (E : TypeId) (i : TypeInfo) (k : Nat) (ht : P.underlying t = some (.slice E)) (hi : P.info? E = some i) (hk : i.size = k)
    (g n cap : Nat) (ad : Addr) (m c : Nat) (hd : a.eval d = .slice (some ⟨g, 0, none⟩) n cap) (hsr : a.eval s = .slice (some ad) m c) (cur news : List Value)
    (hrow : RowIs w E g cur) (hl : news.length = m * k) (hsrc : ∀ j v, news[j]? = some v → w.cell? (ad.add j) = some v) (hroom : n + m ≤ cap) (hfit : n * k + news.length ≤ cur.length) (h1 : ∀ v ∈ news, v.oneCell' = true)
    (h : ∀ w', RowIs w' E g (over cur (n * k) news) → w.grownBy w' (some g) → K (a.put o.dst (.slice (some ⟨g, 0, none⟩) (n + m) cap)) w') :
    if Region.wanted o (yielded ops a.tmps) = true then Oper.wp P o a w K Q else E0 := by
  have hr := run_appendK (P := P) w t o.type E i k g n cap ad m c cur news ht hi hk hrow hl hsrc hroom hfit h1
  have hw : Region.wanted o (yielded ops a.tmps) = true := by simp [Region.wanted, hgd]
  rw [if_pos hw]
  unfold Oper.wp
  simp [execOp, ho, resolve, invoke, builtin, hd, hsr, hr, Result.andThen]
  exact h _ (hrow.set _) (grown_setRow _ _ _)
/-- .. the clear at the operation. -/
theorem wpList_clearK {P : Program} (w : World) {ops : Array Oper} {rest : List Oper} {o : Oper} {a : Act} {Q : Exit → Act → World → Prop} (hgd : o.guard = none) (s : Operand) (t : TypeId)
    (ho : o.op = .call { callee := .builtin .clear, args := #[s], argTypes := #[t] }) (E : TypeId) (z : Value) (k g off n c : Nat) (cur : List Value) (ht : P.underlying t = some (.slice E)) (hz : ∀ w, (zeroValue E).run P w = .ok z w) (hk : z.cells.size = k) (h1 : ∀ v ∈ z.cells.toList, v.oneCell' = true)
    (hs : a.eval s = .slice (some ⟨g, off, none⟩) n c) (hrow : RowIs w E g cur) (hn : 0 < n) (hfit : off + n * k ≤ cur.length)
    (h : ∀ w' zs, zs.length = n * k → RowIs w' E g (over cur off zs) → w.grownBy w' (some g) → wpList P ops Q rest (a.put o.dst (.tuple #[])) w') : wpList P ops Q (o :: rest) a w := by
  obtain ⟨zs, hl, hr⟩ := run_clearK (P := P) w t o.type E z k g off n c cur ht hz hk h1 hrow hn hfit
  refine wpList_plain hgd fun K hK => ?_
  unfold Oper.wp
  simp only [execOp, ho, resolve, invoke, builtin, Sem.run_bind, Sem.run_pure, Result.andThen_ok, List.map_toArray, List.map_cons, List.map_nil, hs, hr]
  exact hK _ _ (h _ zs hl (hrow.set _) (grown_setRow _ _ _))

/-- One left out. -/
def delE (l : List Ent) (i : Nat) : List Ent := l.take i ++ l.drop (i + 1)
theorem zeroE (w : World) : (zeroValue 54).run Try.prog w = .ok (.agg #[.string ByteArray.empty, .string ByteArray.empty]) w := by kernel_rfl
/-- Moved down, and what is behind laid over. -/
theorem over_down (P X Q R zs : List Value) (o : Nat) (ho : P.length = o) (n : Nat) (hn : o + Q.length = n) (_hz : zs.length = X.length) : (over (over (P ++ (X ++ (Q ++ R))) o Q) n zs).take n = P ++ Q := by
  have e1 : over (P ++ (X ++ (Q ++ R))) o Q = P ++ (Q ++ (X ++ (Q ++ R)).drop Q.length) := over_behind P _ Q o ho
  rw [e1, ← List.append_assoc, over_behind (P ++ Q) _ zs n (by simp; omega), List.take_append_of_le_length (by simp; omega), List.take_of_length_le (by simp; omega)]

set_option maxRecDepth 100000 in
set_option maxHeartbeats 2000000 in
theorem delRowE (B g cap : Nat) (cur : List Value) (l : List Ent) (i : Nat) (w : World) (hrow : RowIs w 54 g cur) (hcur : cur.take (l.length * 2) = cellsE l) (hcurl : cur.length = cap * 2) (hil : i < l.length) (hcl : l.length ≤ cap) (hcm : cap ≤ 9223372036854775807) (hB : B ≤ g) (hl : l.length ≤ 1000000) :
    Calls Try.prog 78 #[.slice (some ⟨g, 0, none⟩) l.length cap, .int .i64 i, .int .i64 ((i : Int) + 1)] w fun e w' => (∃ c', e = .returned (.slice (some ⟨g, 0, none⟩) (l.length - 1) c') ∧ w'.ownsRow B 54 2 (.slice (some ⟨g, 0, none⟩) (l.length - 1) c') (l.length - 1) (cellsE (delE l i))) ∧ w.grownBy w' (some g) := by
  obtain ⟨i0, hi, hz0, hz1, hz2⟩ := info_parts infoE
  have hg := hrow.lt
  have hne : ((i : Int) == (i : Int) + 1) = false := by rw [beq_eq_false_iff_ne]; omega
  have hi1 : (i : Int) < (l.length : Int) := by omega
  have hi0 : (0 : Int) ≤ (i : Int) := by omega
  have hi2 : (0 : Int) ≤ (i : Int) + 1 := by omega
  have hi3 : (i : Int) ≤ (i : Int) + 1 := by omega
  have hi4 : (i : Int) + 1 ≤ (l.length : Int) := by omega
  have hi5 : (i : Int) ≤ (l.length : Int) := by omega
  have hi6 : (l.length : Int) ≤ (cap : Int) := by omega
  have hi7 : (i : Int) ≤ (cap : Int) := by omega
  have hci : ¬ cap = i := by omega
  have htn : ((i : Int) + 1).toNat = i + 1 := by omega
  obtain ⟨R, hcurE⟩ : ∃ R, cur = cellsE (l.take i) ++ (cellsE [l[i]] ++ (cellsE (l.drop (i + 1)) ++ R)) := ⟨cur.drop (l.length * 2), by
    rw [← List.append_assoc, ← List.append_assoc, ← cellsE_append, ← cellsE_append, List.append_assoc, List.singleton_append, List.getElem_cons_drop, List.take_append_drop, ← hcur, List.take_append_drop]⟩
  have hPl : (cellsE (l.take i)).length = i * 2 := by rw [cellsE_len, List.length_take]; omega
  have hQl : (cellsE (l.drop (i + 1))).length = (l.length - (i + 1)) * 2 := by rw [cellsE_len, List.length_drop]
  have hXl : (cellsE [l[i]]).length = 2 := by rw [cellsE_len]; rfl
  have hQ1 := cellsE_oneCell (l.drop (i + 1))
  have hdel : cellsE (delE l i) = cellsE (l.take i) ++ cellsE (l.drop (i + 1)) := by rw [delE, cellsE_append]
  have hdel' := Lib.hid hdel
  have hcurl' := Lib.hid hcurl
  clear hcur hdel hcurl
  generalize cellsE (l.take i) = C at *
  generalize cellsE (l.drop (i + 1)) = D at *
  generalize cellsE [l[i]] = X at *
  have hCl := Lib.hid hPl
  have hDl := Lib.hid hQl
  have hXl' := Lib.hid hXl
  have hcurE' := Lib.hid hcurE
  clear hPl hQl hXl hcurE
  go_enter Try.func78, Try.ntmps78
  go_wp2_with fail
  have hR := Lib.hid (over_down C X D R)
  by_cases hce : cap = i + 1
  · have hn1 : l.length = i + 1 := by omega
    have hD0 : D = [] := List.eq_nil_of_length_eq_zero (by rw [hDl.out]; omega)
    go_region_law (refine step_appendK rfl (.tmp 22) (.tmp 25) 43 rfl 54 i0 2 Try.underlying43 hi hz1 g i (i + 1) ⟨g, 0, none⟩ 0 0 (by simp [Act.eval, Act.put]) (by simp [Act.eval, Act.put]) cur [] hrow.drew rfl (fun j v hv => by simp at hv) (by omega) (by rw [hcurl'.out]; simp; omega) (by simp) ?_; intro w3 hr3 hg3)
    go_wp2_with (with_reducible show wpList _ _ _ (Oper.mk none _ _ _ _ _ :: _) _ _; refine wpList_clearK _ rfl (.tmp 31) 43 rfl 54 _ 2 g (i * 2) 1 1 _ Try.underlying43 zeroE rfl (by decide) ?hs hr3 (by omega) ?hfit ?_; (case hs => simp [Act.eval]); (case hfit => (rw [over_len (by rw [hcurl'.out]; simp; omega), hcurl'.out]; omega)); intro w4 zs hzl hr4 hg4)
    rw [hcurE'.out, hD0, List.nil_append] at hr4
    go_ret
    rw [show l.length - 1 = i by omega]
    refine ⟨⟨_, rfl, ?_⟩, grown_trans' (grown_undrew hg3) hg4⟩
    have hC := over_down C X [] R zs (i * 2) hCl.out (i * 2) rfl (by rw [hzl, hXl'.out])
    rw [List.nil_append] at hC
    have hl2 : (C ++ (X ++ R)).length = (i + 1) * 2 := by rw [← hce, ← hcurl'.out, hcurE'.out, hD0, List.nil_append]
    have h1 := (over_len (cur := C ++ (X ++ R)) (cs := []) (o := i * 2) (by rw [hl2]; simp; omega)).trans hl2
    have h2 := (over_len (cs := zs) (o := i * 2) (by rw [h1, hzl]; omega)).trans h1
    exact ownsRow_shut hB hr4 (by omega) (by unfold maxLen; omega) h2 (by rw [hC, hdel'.out, hD0, List.append_nil])
  · go_region_law (refine step_appendK rfl (.tmp 22) (.tmp 25) 43 rfl 54 i0 2 Try.underlying43 hi hz1 g i cap ⟨g, (i + 1) * 2, none⟩ (l.length - (i + 1)) (cap - (i + 1)) (by simp [Act.eval, Act.put]) (by simp [Act.eval, Act.put]) cur D hrow.drew hDl.out (hrow.drew.cells _ _ fun j v hv => by rw [hcurE'.out, ← List.append_assoc, List.getElem?_append_right (by rw [List.length_append, hCl.out, hXl'.out]; omega), List.length_append, hCl.out, hXl'.out, show (i + 1) * 2 + j - (i * 2 + 2) = j by omega, List.getElem?_append_left (List.getElem?_eq_some_iff.1 hv).1]; exact hv) (by omega) (by rw [hDl.out, hcurl'.out]; omega) hQ1 ?_; intro w3 hr3 hg3)
    go_wp2_with (with_reducible show wpList _ _ _ (Oper.mk none _ _ _ _ _ :: _) _ _; refine wpList_clearK _ rfl (.tmp 31) 43 rfl 54 _ 2 g ((i + (l.length - (i + 1))) * 2) (l.length - (i + (l.length - (i + 1)))) (cap - (i + (l.length - (i + 1)))) _ Try.underlying43 zeroE rfl (by decide) ?hs hr3 (by omega) ?hfit ?_; (case hs => simp [Act.eval]); (case hfit => (rw [over_len (by rw [hDl.out, hcurl'.out]; omega), hcurl'.out]; omega)); intro w4 zs hzl hr4 hg4)
    have hli : i + (l.length - (i + 1)) = l.length - 1 := by omega
    rw [hli] at hr4 hzl
    rw [hcurE'.out] at hr4
    go_ret
    rw [hli]
    refine ⟨⟨_, rfl, ?_⟩, grown_trans' (grown_undrew hg3) hg4⟩
    have hC := over_down C X D R zs (i * 2) hCl.out ((l.length - 1) * 2) (by rw [hDl.out]; omega) (by rw [hzl, hXl'.out]; omega)
    have hl2 : (C ++ (X ++ (D ++ R))).length = cap * 2 := by rw [← hcurl'.out, hcurE'.out]
    have h1 := (over_len (cs := D) (o := i * 2) (by rw [hl2, hDl.out]; omega)).trans hl2
    have h2 := (over_len (cs := zs) (o := (l.length - 1) * 2) (by rw [h1, hzl]; omega)).trans h1
    exact ownsRow_shut hB hr4 (by omega) (by unfold maxLen; omega) h2 (by rw [hC, hdel'.out])

theorem deleteE (B : Nat) (v : Value) (l : List Ent) (i : Nat) (w : World) (hown : w.ownsRow B 54 2 v l.length (cellsE l)) (hi : i < l.length) (hl : l.length ≤ 1000000) :
    Calls Try.prog 78 #[v, .int .i64 i, .int .i64 ((i : Int) + 1)] w fun e w' => (∃ v', e = .returned v' ∧ w'.ownsRow B 54 2 v' (delE l i).length (cellsE (delE l i)) ∧ v'.ownBlock = v.ownBlock) ∧ w.grownBy w' v.ownBlock := by
  rcases ownsRow_open hown with ⟨rfl, h0, -⟩ | ⟨g, cap, cur, rfl, hBg, hr, hn, hm, hc, ht⟩
  · omega
  · refine (delRowE B g cap cur l i w hr ht hc hi hn (by unfold maxLen at hm; omega) hBg hl).mono ?_
    rintro e w' ⟨⟨c', h1, h2⟩, h3⟩
    have hd : (delE l i).length = l.length - 1 := by simp [delE]; omega
    rw [hd]
    exact ⟨⟨_, h1, h2, rfl⟩, h3⟩

end Go.Proofs.Ytcjeonamebnpfaa
