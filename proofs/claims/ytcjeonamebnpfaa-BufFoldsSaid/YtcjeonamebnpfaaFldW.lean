/-
  The walk of BufFolds.
-/
import Derived.Test.YtcjeonamebnpfaaGrpO
import Derived.Test.YtcjeonamebnpfaaMsgA
import Derived.Test.YtcjeonamebnpfaaOpen
import Derived.Test.YtcjeonamebnpfaaWq
import Derived.Deep.DeepCutAuto
import Derived.BigRegion
import Derived.BigQuiet
import Derived.Deep.RegionHeld3
namespace Go.Proofs.Ytcjeonamebnpfaa
open Go.RowKit
attribute [local go_sem ↓] Go.wp_at_zero Go.wp_at_succ

theorem elemK : Try.prog.elem 22 = 28 := by kernel_rfl
theorem underK : Try.prog.underlying 22 = some (.slice (Try.prog.elem 22)) := by rw [elemK]; exact Try.underlying22
theorem sizeElemK (w : World) : (sizeOf (Try.prog.elem 22)).run Try.prog w = .ok 4 w := by kernel_rfl
theorem cut_itemsK (ao : Option Addr) (n c i : Nat) (hin : i ≤ n) (hnc : n ≤ c) (w : World) : (Instr.slice 22 (.slice ao n c) none (some (.int .i64 (i : Int))) none).run Try.prog w = .ok (.slice ao i c) w := by
  rw [run_slice_h w 22 ao n c underK .i64 i (by omega) (by omega)]
  rw [sizeElemK]
  have e : ao.map (·.add 0) = ao := by cases ao <;> simp [Addr.add]
  simp [Result.andThen, sliced, e]

theorem getV_in (wb : Bool) (X : Upd) : ∃ P : Upd, getV (if wb = true then some X else none) = .tuple #[.agg #[.int .u8 P.kind, .string (S P.key), .string (S P.val), .int .u64 P.delta], .bool wb] ∧ (wb = true → P = X) := by
  cases wb
  · exact ⟨⟨0, [], [], 0⟩, rfl, by simp⟩
  · exact ⟨X, rfl, fun _ => rfl⟩
theorem getV_out (wb : Bool) (X : Upd) : ∃ P : Upd, getV (if wb = true then none else some X) = .tuple #[.agg #[.int .u8 P.kind, .string (S P.key), .string (S P.val), .int .u64 P.delta], .bool (!wb)] ∧ (wb = false → P = X) := by
  cases wb
  · exact ⟨X, rfl, fun _ => rfl⟩
  · exact ⟨⟨0, [], [], 0⟩, rfl, by simp⟩
theorem getV_some (X : Upd) : getV (some X) = .tuple #[.agg #[.int .u8 X.kind, .string (S X.key), .string (S X.val), .int .u64 X.delta], .bool true] := rfl
/-- What a range over the map hands out. -/
theorem GrpAt.entry {w : World} {base b : Nat} {us : List Upd} {V : List UInt8 → Value} {D : DataW Unit} (h : GrpAt w base b us V D) {x : List UInt8} {c : Option Addr × Nat × Nat} {kl : Lit} {y : DataW Unit × List MemPlace} (hkey : keyOf Try.prog 9 (.string (S x)) = some kl) (hv : sliceD (.slice c.1 c.2.1 c.2.2) = some y) (hat : ∀ zd, D.atKey kl zd = y.1) :
    kl = .string x ∧ V x = .slice c.1 c.2.1 c.2.2 := by
  obtain ⟨x', e1, e2⟩ := str_key_inv hkey
  have hx : x = x' := S_inj (by injection e1)
  subst hx
  subst e2
  refine ⟨rfl, ?_⟩
  have h1 := h.get x
  have h2 : sliceD (.slice c.1 c.2.1 c.2.2) = some (D.atKey (.string x) .nil, []) := by
    rw [hat]
    obtain ⟨d, ps⟩ := y
    rw [hv, (sliceD_inv hv).1]
  exact sliceD_inj h1 h2
theorem GrpAt.len {w : World} {base b : Nat} {us : List Upd} {V : List UInt8 → Value} {D : DataW Unit} (h : GrpAt w base b us V D) (ty : TypeId) : (Builtin.len_ #[62] ty #[.map (some b)]).run Try.prog w = .ok (.int .i64 ((withAll us).length : Nat)) w := by
  rw [h.own.len Try.underlying62 ty, h.size]
theorem key_lawG   : Go.Maps.Keyed Try.prog 9 := Maps.string_keyed Try.underlying9
theorem inv_key : ∀ key kl, keyOf Try.prog 9 key = some kl → ∃ x : List UInt8, key = .string (S x) := fun key kl h => by
  obtain ⟨x, e, -⟩ := str_key_inv h
  exact ⟨x, e⟩
theorem inv_val : ∀ (v : Value) (y : DataW Unit × List MemPlace), sliceD v = some y → ∃ c : Option Addr × Nat × Nat, v = .slice c.1 c.2.1 c.2.2 := fun _ _ h => slice_val h

set_option maxRecDepth 100000 in
set_option maxHeartbeats 8000000 in
theorem bufFolds_walk (v : Value) (l : List Upd) (val low high : List UInt8) (w : World) (hl : ArgUpds w v l) :
    Calls Try.prog 6 #[.agg #[v, .string (S val), .string (S low), .string (S high)]] w fun e w' => e = .returned (.bool true) ∧ Below w.heap.size w w' := by
  have hmm := @run_makeMap Try.prog
  obtain ⟨i0, hi, iz0, iz1, iz2⟩ := info_parts infoU
  have hmin := fun ts t a b w => run_tmin (P := Try.prog) ts t a b w
  have hm : tmin (l.length : Int) 30 = ((min l.length 30 : Nat) : Int) := tmin_nat _ 30
  have hm2 : tmin (val.length : Int) 20 = ((min val.length 20 : Nat) : Int) := tmin_nat _ 20
  have hva : min val.length 20 ≤ val.length := Nat.min_le_left _ _
  have hvb : min val.length 20 ≤ 20 := Nat.min_le_right _ _
  generalize min val.length 20 = m2 at *
  have hs1 := fun W => take_str val m2 hva W
  have hvl : (val.take m2).length ≤ 20 := by rw [List.length_take]; omega
  generalize val.take m2 = VAL at *
  obtain ⟨hform, hwf, hsize⟩ := hl
  obtain ⟨ao, c, rfl, hx, hc1, hc2, hn⟩ := hform
  generalize hM : min l.length 30 = m at *
  have hmx : m ≤ l.length := by omega
  have hm20 : m ≤ 30 := by omega
  have hcut := fun W => cut_itemsK ao l.length c m hmx hc1 W
  clear hn hc2 hM
  go_enter Try.func6, Try.ntmps6
  go_wp2_with fail
  have hG0 := BufG.start w (.cells #[.slice ao l.length c, .string (S val), .string (S low), .string (S high)] 61)
  have HG0 := Lib.hid hG0
  clear hG0
  refine WQ.region (C := fun w' => w'.cell? ⟨w.heap.size, 0, none⟩ = some (.slice ao l.length c) ∧ w'.cell? ⟨w.heap.size, 1, none⟩ = some (.string (S val)) ∧ w'.cell? ⟨w.heap.size, 2, none⟩ = some (.string (S low)) ∧ w'.cell? ⟨w.heap.size, 3, none⟩ = some (.string (S high)) ∧ BufG w w' w.heap.size (w.heap.size + 1 + 1 + 1) (w.heap.size + 1) (w.heap.size + 1 + 1) [] [] (fun _ => .slice none 0 0) (.map []) none 0) (by kernel_rfl) (by kernel_rfl) (⟨cell_drew (cell_past _ (by simp)), cell_drew (cell_past _ (by simp)), cell_drew (cell_past _ (by simp)), cell_drew (cell_past _ (by simp)), HG0.out.on (below_drew' (Below.refl _ _))⟩) ?_
  refine WQ.want (by rfl) (fun K hK => ?_)
  refine ⟨.pointer (some ⟨w.heap.size, 1, none⟩), fun w' hw' => ?_, hK _ ?_⟩
  · obtain ⟨x0, x1, x2, x3, x4⟩ := hw'
    go_simp
  clear hK K
  (try simp only [Act.put, List.setIfInBounds_toArray, List.set_cons_zero, List.set_cons_succ])
  refine WQ.want (by rfl) (fun K hK => ?_)
  refine ⟨.string (S val), fun w' hw' => ?_, hK _ ?_⟩
  · obtain ⟨x0, x1, x2, x3, x4⟩ := hw'
    go_simp
  clear hK K
  (try simp only [Act.put, List.setIfInBounds_toArray, List.set_cons_zero, List.set_cons_succ])
  refine WQ.want (by rfl) (fun K hK => ?_)
  refine ⟨.pointer (some ⟨w.heap.size, 1, none⟩), fun w' hw' => ?_, hK _ ?_⟩
  · obtain ⟨x0, x1, x2, x3, x4⟩ := hw'
    go_simp
  clear hK K
  (try simp only [Act.put, List.setIfInBounds_toArray, List.set_cons_zero, List.set_cons_succ])
  refine WQ.want (by rfl) (fun K hK => ?_)
  refine ⟨.string (S val), fun w' hw' => ?_, hK _ ?_⟩
  · obtain ⟨x0, x1, x2, x3, x4⟩ := hw'
    go_simp
  clear hK K
  (try simp only [Act.put, List.setIfInBounds_toArray, List.set_cons_zero, List.set_cons_succ])
  refine WQ.want (by rfl) (fun K hK => ?_)
  refine ⟨.int .i64 val.length, fun w' hw' => ?_, hK _ ?_⟩
  · obtain ⟨x0, x1, x2, x3, x4⟩ := hw'
    go_simp
  clear hK K
  (try simp only [Act.put, List.setIfInBounds_toArray, List.set_cons_zero, List.set_cons_succ])
  refine WQ.want (by rfl) (fun K hK => ?_)
  refine ⟨.int .i64 m2, fun w' hw' => ?_, hK _ ?_⟩
  · obtain ⟨x0, x1, x2, x3, x4⟩ := hw'
    go_simp
  clear hK K
  (try simp only [Act.put, List.setIfInBounds_toArray, List.set_cons_zero, List.set_cons_succ])
  refine WQ.want (by rfl) (fun K hK => ?_)
  refine ⟨.string (S VAL), fun w' hw' => ?_, hK _ ?_⟩
  · obtain ⟨x0, x1, x2, x3, x4⟩ := hw'
    go_simp
  clear hK K
  (try simp only [Act.put, List.setIfInBounds_toArray, List.set_cons_zero, List.set_cons_succ])
  refine WQ.want (by rfl) (fun K hK => ?_)
  refine ⟨.pointer (some ⟨w.heap.size, 2, none⟩), fun w' hw' => ?_, hK _ ?_⟩
  · obtain ⟨x0, x1, x2, x3, x4⟩ := hw'
    go_simp
  clear hK K
  (try simp only [Act.put, List.setIfInBounds_toArray, List.set_cons_zero, List.set_cons_succ])
  refine WQ.want (by rfl) (fun K hK => ?_)
  refine ⟨.string (S low), fun w' hw' => ?_, hK _ ?_⟩
  · obtain ⟨x0, x1, x2, x3, x4⟩ := hw'
    go_simp
  clear hK K
  (try simp only [Act.put, List.setIfInBounds_toArray, List.set_cons_zero, List.set_cons_succ])
  refine WQ.want (by rfl) (fun K hK => ?_)
  refine ⟨.pointer (some ⟨w.heap.size, 3, none⟩), fun w' hw' => ?_, hK _ ?_⟩
  · obtain ⟨x0, x1, x2, x3, x4⟩ := hw'
    go_simp
  clear hK K
  (try simp only [Act.put, List.setIfInBounds_toArray, List.set_cons_zero, List.set_cons_succ])
  refine WQ.want (by rfl) (fun K hK => ?_)
  refine ⟨.string (S high), fun w' hw' => ?_, hK _ ?_⟩
  · obtain ⟨x0, x1, x2, x3, x4⟩ := hw'
    go_simp
  clear hK K
  (try simp only [Act.put, List.setIfInBounds_toArray, List.set_cons_zero, List.set_cons_succ])
  refine WQ.want (by rfl) (fun K hK => ?_)
  refine ⟨.string (S VAL), fun w' hw' => ?_, hK _ ?_⟩
  · obtain ⟨x0, x1, x2, x3, x4⟩ := hw'
    go_simp
  clear hK K
  (try simp only [Act.put, List.setIfInBounds_toArray, List.set_cons_zero, List.set_cons_succ])
  refine WQ.want (by rfl) (fun K hK => ?_)
  refine ⟨.string (S low), fun w' hw' => ?_, hK _ ?_⟩
  · obtain ⟨x0, x1, x2, x3, x4⟩ := hw'
    go_simp
  clear hK K
  (try simp only [Act.put, List.setIfInBounds_toArray, List.set_cons_zero, List.set_cons_succ])
  refine WQ.want (by rfl) (fun K hK => ?_)
  refine ⟨.string (S high), fun w' hw' => ?_, hK _ ?_⟩
  · obtain ⟨x0, x1, x2, x3, x4⟩ := hw'
    go_simp
  clear hK K
  (try simp only [Act.put, List.setIfInBounds_toArray, List.set_cons_zero, List.set_cons_succ])
  refine WQ.done ?_
  rintro w0 ⟨c0, -, -, -, hG⟩
  clear HG0
  go_wp2_with fail
  go_loopw [48] (fun i wr => ∃ (k : Nat) (us : List Upd) (V : List UInt8 → Value) (D : DataW Unit) (a : Option Addr) (ca : Nat), i = .int .i64 k ∧ k ≤ m ∧ Hid (us.length = k) ∧ Hid (∀ u ∈ us, Tm u) ∧ BufG w wr w.heap.size (w.heap.size + 1 + 1 + 1) (w.heap.size + 1) (w.heap.size + 1 + 1) us (withAll us) V D a ca) (fun i _ => m - (intOf i).toNat)
  case atStart => exact ⟨0, [], _, _, none, 0, rfl, Nat.zero_le _, Lib.hid rfl, Lib.hid (fun u hu => by simp at hu), hG⟩
  case round =>
    obtain ⟨k, us, V, D, a, ca, rfl, hk, HUS, HUW, hG⟩ := hrel
    have hk0 : (0 : Int) ≤ (k : Int) := Int.natCast_nonneg _
    obtain ⟨o1, o2, o3⟩ := withAll_ok us (tm_ok HUW.out)
    have hol : (withAll us).length ≤ 30 := by have := HUS.out; omega
    have hul : us.length ≤ 30 := by have := HUS.out; omega
    have hB := hG.below
    have HG := Lib.hid hG
    have HR := Lib.hid o1
    clear hG o1 o2 o3
    by_cases hkm : k < m
    · have hk1 : (k : Int) < (m : Int) := by omega
      have hkl : k < l.length := by omega
      obtain ⟨hw1, hw2⟩ := hwf _ (List.getElem_mem hkl)
      obtain ⟨hu1', hu2⟩ := hsize _ (List.getElem_mem hkl)
      obtain ⟨b, off, rfl, hb, t0, t1, t2, t3⟩ := SlAt.cells4 hx k hkl
      have q0 := (cell_below hB hb _).trans t0
      have q1 := (cell_below hB hb _).trans t1
      have q2 := (cell_below hB hb _).trans t2
      have q3 := (cell_below hB hb _).trans t3
      clear t0 t1 t2 t3
      generalize l[k] = u at *
      go_wp2_with fail
      refine (thread (tame_upd u _ hw1 hu1' hu2) wr.heap.size wr (by go_grown) (by go_grown)).mono ?_
      rintro e w2 ⟨⟨T, hT, rfl⟩, hX2, -, -, hs2, hz2⟩
      have hTm := tame_tm u ⟨hw1, hw2⟩
      rw [hT] at hTm
      have hg2 := HG.out.on hX2
      have HG2 := Lib.hid hg2
      have p1 := hg2.cell
      have pf := hg2.free
      have hsz2 : w.heap.size + 1 + 1 + 1 ≤ w2.heap.size := hg2.leW
      have HT := Lib.hid hTm
      have hTk : T.key.length ≤ 1000 := by have := hTm.klen; omega
      have HW := Lib.hid (fun a n c W hn h => withOwn_next a n c us T W hn h (by omega) (tm_ok HUW.out) hTm.wf)
      have hgl : (grp us T.key).length ≤ 30 := Nat.le_trans (List.length_filter_le _ _) hul
      clear HG hg2 hX2 q0 q1 q2 q3 hs2 hT hTm hB
      generalize hF : withAll us = F at *
      generalize hGG : withAll (us ++ [T]) = G at *
      have HF := Lib.hid hF
      have HGG := Lib.hid hGG
      clear hF hGG
      have p1' := cell_past (.cells #[.int .u8 T.kind, .string (S T.key), .string (S T.val), .int .u64 T.delta] 32) (cell_past (.cells #[.int .u8 T.kind, .string (S T.key), .string (S T.val), .int .u64 T.delta] 31) p1)
      go_wp2_with fail
      refine (thread (HW.out a _ ca _ rfl (HG2.out.box.kept (by go_grown) (Nat.le_refl _))) w2.heap.size w2 (by go_grown) (by go_grown)).mono ?_
      rintro e w3 ⟨⟨a3, c3, rfl, ho3⟩, hX3, hk3, -, hs3, hz3⟩
      have p3 := kept_cell hX3 p1
      have pf3 := ((bcell hX3).2 (w.heap.size + 1) 0 (by omega)).trans pf
      have hsz3 : w2.heap.size + 1 < w3.heap.size := by simp at hs3; omega
      have e0 : w3.cell? ⟨w2.heap.size, 0, none⟩ = some (.int .u8 T.kind) := (hk3 w2.heap.size 0 (by simp; omega)).trans (by simp)
      have e1 : w3.cell? ⟨w2.heap.size, 1, none⟩ = some (.string (S T.key)) := (hk3 w2.heap.size 1 (by simp; omega)).trans (by simp)
      have e2 : w3.cell? ⟨w2.heap.size, 2, none⟩ = some (.string (S T.val)) := (hk3 w2.heap.size 2 (by simp; omega)).trans (by simp)
      have e3 : w3.cell? ⟨w2.heap.size, 3, none⟩ = some (.int .u64 T.delta) := (hk3 w2.heap.size 3 (by simp; omega)).trans (by simp)
      have hfar : (V T.key).ownBlock ≠ some w2.heap.size := fun e => by have := ((HG2.out.map.row T.key).lt _ e).2; omega
      have hGS := GrpS.mk ((HG2.out.on hX3).store (own_base ho3 (by simp; omega)) (HG2.out.fresh (own_base ho3 (by simp; omega)))) (FourAt.setCell ⟨e0, e1, e2, e3⟩ (by omega) _) hfar
      have HS := Lib.hid hGS
      clear ho3 hX3 hk3 hs3 hfar hGS HW e0 e1 e2 e3 p1 p1' pf
      go_upto_region 9 with (fail)
      obtain ⟨wS, hwS⟩ : ∃ W, W = w3.setCell ⟨w.heap.size + 1, 0, none⟩ (.slice a3 G.length c3) := ⟨_, rfl⟩
      rw [← hwS] at HS ⊢
      have hszS : w2.heap.size + 1 < wS.heap.size := by rw [hwS]; simpa using hsz3
      clear hwS p3 pf3 hsz3
      have L1 := (HS.out.drew.held hTk).2.2.2.2
      have L2 := ((HS.out.alloc (.cells #[.int .u8 T.kind, .string (S T.key), .string (S T.val), .int .u64 T.delta] 31)).drew.held hTk).2.2.2.2
      go_region_held3 (fun w' => w'.cell? ⟨w2.heap.size, 0, none⟩ = some (.int .u8 T.kind) ∧ w'.cell? ⟨w2.heap.size, 1, none⟩ = some (.string (S T.key)) ∧ w'.cell? ⟨w2.heap.size, 2, none⟩ = some (.string (S T.val)) ∧ w'.cell? ⟨w2.heap.size, 3, none⟩ = some (.int .u64 T.delta))
        (first | assumption | exact HAF.out.four | exact HAG.out.four | exact HS.out.cells.four | exact HS.out.drew.cells.four | exact (HS.out.alloc _).drew.cells.four | exact (HS.out.alloc _).cells.four)
        (first
          | (refine step_append_own (by rfl) _ _ 24 (by rfl) (w.heap.size + 1 + 1 + 1) 31 i0 (.agg #[.int .u8 0, .string ByteArray.empty, .string ByteArray.empty, .int .u64 0]) 4 48 Try.underlying24 hi iz0 iz1 iz2 rfl (by decide) _ _ _ (by rfl) ((HS.out.alloc _).drew.buf.map.row T.key) ⟨wS.heap.size, 0, none⟩ 1 1 [.int .u8 T.kind, .string (S T.key), .string (S T.val), .int .u64 T.delta] (by rfl) (by rfl) ((FourAt.new _ T 31 wS.heap.size (by simp)).drew).news (four_oneCell _ _ _ _) (by unfold maxLen; omega) (by omega) ((HS.out.alloc _).drew.buf.leW) ?_; intro va wa hownA hgrowA hatA; go_must (have HAF := Lib.hid ((HS.out.alloc _).drew.cells.grown hgrowA HS.out.far); obtain ⟨w5, V5, D5, hrun5, hG5, hg5⟩ := (HS.out.alloc _).drew.buf.put HUW.out T HT.out (by omega) hownA hgrowA hatA; have HAG := Lib.hid (HAF.out.grown hg5 (fun e => by injection e with e; omega))); have HG5 := Lib.hid hG5; clear hownA hgrowA hatA hG5 hg5 L1 L2))
      all_goals
        clear HAF HAG hrun5 HS
        go_wp2_with fail
        go_roundw
        (case rel => exact ⟨k + 1, us ++ [T], V5, D5, a3, c3, by go_num, by omega, Lib.hid (by rw [List.length_append, HUS.out]; rfl), Lib.hid (fun x hx => (List.mem_append.1 hx).elim (HUW.out x) (fun h => by rw [List.mem_singleton] at h; rw [h]; exact HT.out)), by rw [HGG.out]; exact HG5.out⟩)
        (case measure => first | (simp [intOf]; done) | (simp [intOf]; omega))
    · obtain rfl : k = m := by omega
      have HTM := Lib.hid (withAll_tm us HUW.out)
      have HGRD := Lib.hid (fun key hkey => get_round us HUW.out key hkey low high)
      have hboth := cut_both HR.out low high
      have HIR := Lib.hid (cutIn_rising HR.out low high)
      have HOR := Lib.hid (cutOut_rising HR.out low high)
      have hil := cutIn_le HR.out low high
      have hil2 := cutOut_le HR.out low high
      have HLEN := Lib.hid HG.out.map.len
      generalize hF : withAll us = F at *
      have HF := Lib.hid hF
      clear hF
      have HCA := Lib.hid (fun W h => cut_next a _ ca F low high W rfl h (by omega) HR.out)
      generalize cutIn F low high = I at *
      generalize cutOut F low high = O at *
      have hw1 : IntKind.i64.wrap ((I.length : Int) + (O.length : Int)) = (F.length : Int) := by rw [IntWalk.i64_in _ (by omega)]; omega
      have p1 := HG.out.cell
      have hszr : w.heap.size + 1 + 1 + 1 ≤ wr.heap.size := HG.out.leW
      go_wp2_with fail
      refine (thread (HCA.out _ (HG.out.box)) wr.heap.size wr (by go_grown) (by go_grown)).mono ?_
      rintro e w2 ⟨⟨a1, c1, a2, c2, rfl, hi2, ho2⟩, hX2, -, -, -, hz2⟩
      have HI2 := Lib.hid hi2
      have HO2 := Lib.hid ho2
      have HX2 := Lib.hid hX2
      clear hi2 ho2 hX2 p1 HCA
      go_wp2_with fail
      obtain ⟨wC, hwC⟩ : ∃ W, W = (w2.alloc (.cells #[.slice a1 I.length c1] 36)).alloc (.cells #[.slice a2 O.length c2] 36) := ⟨_, rfl⟩
      rw [← hwC]
      have hXC : Below wr.heap.size wr wC := by rw [hwC]; exact (HX2.out.alloc hz2 _).alloc (by simp; omega) _
      have HGC := Lib.hid (HG.out.on hXC)
      have c0 := HGC.out.cell
      have c1' : wC.cell? ⟨w2.heap.size, 0, none⟩ = some (.slice a1 I.length c1) := by rw [hwC]; exact cell_past _ (by simp)
      have c2' : wC.cell? ⟨w2.heap.size + 1, 0, none⟩ = some (.slice a2 O.length c2) := by rw [hwC]; simp
      have HIC := Lib.hid (show BoxU wC (.agg #[.slice a1 I.length c1]) I from by rw [hwC]; exact HI2.out.kept ((Below.refl _ _).alloc (Nat.le_refl _) _ |>.alloc (by simp) _) (Nat.le_refl _))
      have HOC := Lib.hid (show BoxU wC (.agg #[.slice a2 O.length c2]) O from by rw [hwC]; exact HO2.out.kept ((Below.refl _ _).alloc (Nat.le_refl _) _ |>.alloc (by simp) _) (Nat.le_refl _))
      have hszC : w2.heap.size + 1 < wC.heap.size := by rw [hwC]; simp
      clear hwC HX2 hXC HI2 HO2
      refine WQ.region (C := fun w' => Below wC.heap.size wC w') (by kernel_rfl) (by kernel_rfl) (below_drew' (Below.refl _ _)) ?_
      refine WQ.want (by rfl) (fun K hK => ?_)
      refine ⟨.bool true, fun w' hw' => ?_, hK _ ?_⟩
      · have hq' := hw'
        go_simp
        go_at_call 14
        refine (wakes_any _).mono ?_
        rintro e w6 ⟨he, hb6⟩
        exact ⟨he, hq'.trans (hb6.mono hq'.size)⟩
      clear hK K
      (try simp only [Act.put, List.setIfInBounds_toArray, List.set_cons_zero, List.set_cons_succ])
      refine WQ.want (by rfl) (fun K hK => ?_)
      refine ⟨.bool false, fun w' hw' => ?_, hK _ ?_⟩
      · have hq' := hw'
        go_simp
      clear hK K
      (try simp only [Act.put, List.setIfInBounds_toArray, List.set_cons_zero, List.set_cons_succ])
      refine WQ.want (by rfl) (fun K hK => ?_)
      refine ⟨.bool false, fun w' hw' => ?_, hK _ ?_⟩
      · have hq' := hw'
        go_simp
      clear hK K
      (try simp only [Act.put, List.setIfInBounds_toArray, List.set_cons_zero, List.set_cons_succ])
      refine WQ.want (by rfl) (fun K hK => ?_)
      refine ⟨.agg #[.slice a F.length ca], fun w' hw' => ?_, hK _ ?_⟩
      · have hq' := hw'
        have z0 := kept_cell hw' c0; have z1 := kept_cell hw' c1'; have z2 := kept_cell hw' c2'; go_simp
      clear hK K
      (try simp only [Act.put, List.setIfInBounds_toArray, List.set_cons_zero, List.set_cons_succ])
      refine WQ.want (by rfl) (fun K hK => ?_)
      refine ⟨.int .i64 (F.length : Nat), fun w' hw' => ?_, hK _ ?_⟩
      · have hq' := hw'
        go_simp
        go_at_call 22
        refine (lenU _ F _ (HGC.out.on hq').box).mono ?_
        rintro e w6 ⟨he, hb6⟩
        exact ⟨he, hq'.trans (hb6.mono hq'.size)⟩
      clear hK K
      (try simp only [Act.put, List.setIfInBounds_toArray, List.set_cons_zero, List.set_cons_succ])
      refine WQ.want (by rfl) (fun K hK => ?_)
      refine ⟨.map (some (w.heap.size + 1 + 1)), fun w' hw' => ?_, hK _ ?_⟩
      · have hq' := hw'
        go_simp
      clear hK K
      (try simp only [Act.put, List.setIfInBounds_toArray, List.set_cons_zero, List.set_cons_succ])
      refine WQ.want (by rfl) (fun K hK => ?_)
      refine ⟨.int .i64 (F.length : Nat), fun w' hw' => ?_, hK _ ?_⟩
      · have hq' := hw'
        have z0 := kept_cell hw' c0; have z1 := kept_cell hw' c1'; have z2 := kept_cell hw' c2'; (have hlen := fun ty => HF.out ▸ (HGC.out.on hq').map.len ty); go_simp
      clear hK K
      (try simp only [Act.put, List.setIfInBounds_toArray, List.set_cons_zero, List.set_cons_succ])
      refine WQ.want (by rfl) (fun K hK => ?_)
      refine ⟨.bool false, fun w' hw' => ?_, hK _ ?_⟩
      · have hq' := hw'
        go_simp
      clear hK K
      (try simp only [Act.put, List.setIfInBounds_toArray, List.set_cons_zero, List.set_cons_succ])
      refine WQ.want (by rfl) (fun K hK => ?_)
      refine ⟨.bool false, fun w' hw' => ?_, hK _ ?_⟩
      · have hq' := hw'
        go_simp
      clear hK K
      (try simp only [Act.put, List.setIfInBounds_toArray, List.set_cons_zero, List.set_cons_succ])
      refine WQ.want (by rfl) (fun K hK => ?_)
      refine ⟨.bool false, fun w' hw' => ?_, hK _ ?_⟩
      · have hq' := hw'
        go_simp
      clear hK K
      (try simp only [Act.put, List.setIfInBounds_toArray, List.set_cons_zero, List.set_cons_succ])
      refine WQ.want (by rfl) (fun K hK => ?_)
      refine ⟨.agg #[.slice a1 I.length c1], fun w' hw' => ?_, hK _ ?_⟩
      · have hq' := hw'
        have z0 := kept_cell hw' c0; have z1 := kept_cell hw' c1'; have z2 := kept_cell hw' c2'; go_simp
      clear hK K
      (try simp only [Act.put, List.setIfInBounds_toArray, List.set_cons_zero, List.set_cons_succ])
      refine WQ.want (by rfl) (fun K hK => ?_)
      refine ⟨.int .i64 (I.length : Nat), fun w' hw' => ?_, hK _ ?_⟩
      · have hq' := hw'
        go_simp
        go_at_call 22
        refine (lenU _ I _ (HIC.out.kept hq' (Nat.le_refl _))).mono ?_
        rintro e w6 ⟨he, hb6⟩
        exact ⟨he, hq'.trans (hb6.mono hq'.size)⟩
      clear hK K
      (try simp only [Act.put, List.setIfInBounds_toArray, List.set_cons_zero, List.set_cons_succ])
      refine WQ.want (by rfl) (fun K hK => ?_)
      refine ⟨.agg #[.slice a2 O.length c2], fun w' hw' => ?_, hK _ ?_⟩
      · have hq' := hw'
        have z0 := kept_cell hw' c0; have z1 := kept_cell hw' c1'; have z2 := kept_cell hw' c2'; go_simp
      clear hK K
      (try simp only [Act.put, List.setIfInBounds_toArray, List.set_cons_zero, List.set_cons_succ])
      refine WQ.want (by rfl) (fun K hK => ?_)
      refine ⟨.int .i64 (O.length : Nat), fun w' hw' => ?_, hK _ ?_⟩
      · have hq' := hw'
        go_simp
        go_at_call 22
        refine (lenU _ O _ (HOC.out.kept hq' (Nat.le_refl _))).mono ?_
        rintro e w6 ⟨he, hb6⟩
        exact ⟨he, hq'.trans (hb6.mono hq'.size)⟩
      clear hK K
      (try simp only [Act.put, List.setIfInBounds_toArray, List.set_cons_zero, List.set_cons_succ])
      refine WQ.want (by rfl) (fun K hK => ?_)
      refine ⟨.int .i64 (F.length : Nat), fun w' hw' => ?_, hK _ ?_⟩
      · have hq' := hw'
        go_simp
      clear hK K
      (try simp only [Act.put, List.setIfInBounds_toArray, List.set_cons_zero, List.set_cons_succ])
      refine WQ.want (by rfl) (fun K hK => ?_)
      refine ⟨.map (some (w.heap.size + 1 + 1)), fun w' hw' => ?_, hK _ ?_⟩
      · have hq' := hw'
        go_simp
      clear hK K
      (try simp only [Act.put, List.setIfInBounds_toArray, List.set_cons_zero, List.set_cons_succ])
      refine WQ.want (by rfl) (fun K hK => ?_)
      refine ⟨.int .i64 (F.length : Nat), fun w' hw' => ?_, hK _ ?_⟩
      · have hq' := hw'
        have z0 := kept_cell hw' c0; have z1 := kept_cell hw' c1'; have z2 := kept_cell hw' c2'; (have hlen := fun ty => HF.out ▸ (HGC.out.on hq').map.len ty); go_simp
      clear hK K
      (try simp only [Act.put, List.setIfInBounds_toArray, List.set_cons_zero, List.set_cons_succ])
      refine WQ.want (by rfl) (fun K hK => ?_)
      refine ⟨.bool false, fun w' hw' => ?_, hK _ ?_⟩
      · have hq' := hw'
        go_simp
      clear hK K
      (try simp only [Act.put, List.setIfInBounds_toArray, List.set_cons_zero, List.set_cons_succ])
      refine WQ.want (by rfl) (fun K hK => ?_)
      refine ⟨.bool false, fun w' hw' => ?_, hK _ ?_⟩
      · have hq' := hw'
        go_simp
      clear hK K
      (try simp only [Act.put, List.setIfInBounds_toArray, List.set_cons_zero, List.set_cons_succ])
      refine WQ.done ?_
      rintro wD hqD
      have HGD := Lib.hid (HGC.out.on hqD)
      have HID := Lib.hid (HIC.out.kept hqD (Nat.le_refl _))
      have HOD := Lib.hid (HOC.out.kept hqD (Nat.le_refl _))
      have d0 := kept_cell hqD c0
      have d1 := kept_cell hqD c1'
      have d2 := kept_cell hqD c2'
      have hszD : w2.heap.size + 1 < wD.heap.size := Nat.lt_of_lt_of_le hszC hqD.size
      clear hqD HGC HIC HOC c0 c1' c2' hszC hw1
      go_wp2_with (first | (at_range; refine wpList_range_own _ rfl _ 62 rfl 9 24 key_lawG Try.underlying62 sliceD (w.heap.size + 1 + 1) us.length D rfl HGD.out.map.own ?_; intro wA hrg0 hg0 hs0))
      go_frame
      have HD0 := Lib.hid d0
      have HD1 := Lib.hid d1
      have HD2 := Lib.hid d2
      have HR0 := Lib.hid (show RngG wD wA (w.heap.size + 1 + 1) us.length D us (Maps.has D) (Maps.size D) from ⟨hrg0, fun x hx => by rw [HGD.out.map.has x] at hx; simpa using hx, ⟨hg0.os, hg0.tape, hg0.output, hg0.size, fun i hi => hg0.block i hi (by simp)⟩, by have := HGD.out.leW; omega⟩)
      clear d0 d1 d2 hrg0 hg0 hs0 hz2 hG HG
      go_loopw [14] (fun _ wr => ∃ left cnt, RngG wD wr (w.heap.size + 1 + 1) us.length D us left cnt) (fun _ wr => wr.rangeLeft (w.heap.size + 1 + 1) wD.heap.size)
      case atStart => exact ⟨_, _, HR0.out⟩
      case round =>
        obtain ⟨left, cnt, hrg⟩ := hrel
        have HRG := Lib.hid hrg
        clear hrg HR0
        obtain ⟨wo, rfl⟩ : ∃ W, W = wr := ⟨_, rfl⟩
        go_wp2_with (at_next; refine wpList_next_ranges _ rfl _ rfl 9 key_lawG sliceD (fun x : List UInt8 => .string (S x)) (fun c : Option Addr × Nat × Nat => .slice c.1 c.2.1 c.2.2) inv_key inv_val (w.heap.size + 1 + 1) wD.heap.size us.length D left cnt rfl HRG.out.rng ?_ ?_)
        · intro hc0 hl0
          go_wp2_with fail
          go_ret
          exact ⟨rfl, HGD.out.below.trans (HRG.out.below.mono HGD.out.leBW)⟩
        · intro x c1v c2v c3v kl yd yp w1 cnt1 hkey hlk hv hat hrg1 hlt hg1 hs1 hen
          obtain ⟨rfl, hVx⟩ := HGD.out.map.entry (c := (c1v, c2v, c3v)) (y := (yd, yp)) hkey hv hat
          dsimp only at hVx
          have HG1 := Lib.hid (HRG.out.step hrg1 hg1)
          obtain ⟨X, hXt, g1, g2, g3, g4⟩ := HGRD.out x (HRG.out.sub x hlk)
          have HXT := Lib.hid hXt
          have HJ := Lib.hid g2
          have hX1 := HG1.out.below
          have hz1 := hX1.size
          have HMS := Lib.hid (show cnt1 < cnt ∧ wo.rangeLeft (w.heap.size + 1 + 1) wD.heap.size = cnt from ⟨hlt, HRG.out.rng.left_eq⟩)
          have hxl : (grp us x).length ≤ 1000 := Nat.le_trans (grp_len us x) (by omega)
          have hSx : SlAt Upd.cells 4 wD c1v (grp us x) := by
            have h := (slU_row (HGD.out.map.row x)).2
            rw [hVx] at h
            obtain ⟨ao', c', e, hs', -⟩ := h
            simp only [Value.slice.injEq] at e
            rw [e.1]; exact hs'
          have hcn : c2v = (grp us x).length := by
            have h := (slU_row (HGD.out.map.row x)).2
            rw [hVx] at h
            obtain ⟨ao', c', e, -⟩ := h
            simp only [Value.slice.injEq] at e
            exact e.2.1
          have HSX := Lib.hid hSx
          have HCN := Lib.hid hcn
          have HVX := Lib.hid hVx
          have HTG := Lib.hid (fun u hu => HUW.out u (grp_mem (us := us) (k := x) hu).1)
          clear hkey hv hat hrg1 hg1 hs1 hXt g2 yd yp HRG hSx hcn hVx hlk hlt hxl
          generalize hwb : withinB x low high = wb at *
          obtain ⟨PI, gi, hPI⟩ := getV_in wb X
          obtain ⟨PO, go_, hPO⟩ := getV_out wb X
          have HPI := Lib.hid hPI
          have HPO := Lib.hid hPO
          have HWB := Lib.hid hwb
          rw [← g3] at gi
          rw [← g4] at go_
          clear g3 g4 hPI hPO hwb
          have q0 := kept_cell hX1 HD0.out
          have q1' := kept_cell hX1 HD1.out
          have q2' := kept_cell hX1 HD2.out
          have HB0 := Lib.hid (HGD.out.box.kept hX1 (Nat.le_refl _))
          have HI0 := Lib.hid (HID.out.kept hX1 (Nat.le_refl _))
          have HO0 := Lib.hid (HOD.out.kept hX1 (Nat.le_refl _))
          have HS0 := Lib.hid (HSX.out.kept hX1 (Nat.le_refl _))
          have hD1 : w2.heap.size + 1 < w1.heap.size := by omega
          have hX1' : Below w1.heap.size w1 w1 := Below.refl _ _
          go_wp2_with fail
          refine (thread (get_any _ F x _ HB0.out (by omega) HR.out) w1.heap.size w1 hX1' (Nat.le_refl _)).mono ?_
          rintro e w2 ⟨he, hX2, -, -, -, hz2⟩
          rw [g1, getV_some] at he
          subst he
          clear q0 hX1 hX1'
          have q1 := cell_past (.cells #[.int .u8 X.kind, .string (S X.key), .string (S X.val), .int .u64 X.delta] 31) (kept_cell hX2 q1')
          go_wp2_with fail
          refine (thread (get_any _ I x _ (HI0.out.kept (hX2.alloc hz2 _) (Nat.le_refl _)) (by omega) HIR.out) w1.heap.size w1 (hX2.alloc hz2 _) (by simp; omega)).mono ?_
          rintro e w3 ⟨he, hX3, hk3, -, hs3, hz3⟩
          rw [gi] at he
          subst he
          have r0 : w3.cell? ⟨w2.heap.size, 0, none⟩ = some (.int .u8 X.kind) := (hk3 w2.heap.size 0 (by simp)).trans (by simp)
          have r1 : w3.cell? ⟨w2.heap.size, 1, none⟩ = some (.string (S X.key)) := (hk3 w2.heap.size 1 (by simp)).trans (by simp)
          have r2 : w3.cell? ⟨w2.heap.size, 2, none⟩ = some (.string (S X.val)) := (hk3 w2.heap.size 2 (by simp)).trans (by simp)
          have r3 : w3.cell? ⟨w2.heap.size, 3, none⟩ = some (.int .u64 X.delta) := (hk3 w2.heap.size 3 (by simp)).trans (by simp)
          have hs3' : w2.heap.size < w3.heap.size := by simp at hs3; omega
          have HR3 := Lib.hid (And.intro r0 (And.intro r1 (And.intro r2 r3)))
          clear q1 hX2 hk3 hs3 r0 r1 r2 r3
          have q2 := cell_past (.cells #[.int .u8 PI.kind, .string (S PI.key), .string (S PI.val), .int .u64 PI.delta] 31) (kept_cell hX3 q2')
          go_wp2_with fail
          refine (thread (get_any _ O x _ (HO0.out.kept (hX3.alloc hz3 _) (Nat.le_refl _)) (by omega) HOR.out) w1.heap.size w1 (hX3.alloc hz3 _) (by simp; omega)).mono ?_
          rintro e w4 ⟨he, hX4, hk4, -, hs4, hz4⟩
          rw [go_] at he
          subst he
          obtain ⟨r0, r1, r2, r3⟩ := HR3.out
          go_upto_region 20 with (fail)
          obtain ⟨wE, hwE⟩ : ∃ W, W = w4.alloc (.cells #[.int .u8 PO.kind, .string (S PO.key), .string (S PO.val), .int .u64 PO.delta] 31) := ⟨_, rfl⟩
          rw [← hwE]
          have t0 : wE.cell? ⟨w2.heap.size, 0, none⟩ = some (.int .u8 X.kind) := by rw [hwE]; exact cell_past _ ((hk4 w2.heap.size 0 (by simp; omega)).trans (cell_past _ r0))
          have t1 : wE.cell? ⟨w2.heap.size, 1, none⟩ = some (.string (S X.key)) := by rw [hwE]; exact cell_past _ ((hk4 w2.heap.size 1 (by simp; omega)).trans (cell_past _ r1))
          have t2 : wE.cell? ⟨w2.heap.size, 2, none⟩ = some (.string (S X.val)) := by rw [hwE]; exact cell_past _ ((hk4 w2.heap.size 2 (by simp; omega)).trans (cell_past _ r2))
          have t3 : wE.cell? ⟨w2.heap.size, 3, none⟩ = some (.int .u64 X.delta) := by rw [hwE]; exact cell_past _ ((hk4 w2.heap.size 3 (by simp; omega)).trans (cell_past _ r3))
          have v0 : wE.cell? ⟨w3.heap.size, 0, none⟩ = some (.int .u8 PI.kind) := by rw [hwE]; exact cell_past _ ((hk4 w3.heap.size 0 (by simp)).trans (by simp))
          have v1 : wE.cell? ⟨w3.heap.size, 1, none⟩ = some (.string (S PI.key)) := by rw [hwE]; exact cell_past _ ((hk4 w3.heap.size 1 (by simp)).trans (by simp))
          have v2 : wE.cell? ⟨w3.heap.size, 2, none⟩ = some (.string (S PI.val)) := by rw [hwE]; exact cell_past _ ((hk4 w3.heap.size 2 (by simp)).trans (by simp))
          have v3 : wE.cell? ⟨w3.heap.size, 3, none⟩ = some (.int .u64 PI.delta) := by rw [hwE]; exact cell_past _ ((hk4 w3.heap.size 3 (by simp)).trans (by simp))
          have y0 : wE.cell? ⟨w4.heap.size, 0, none⟩ = some (.int .u8 PO.kind) := by rw [hwE]; simp
          have y1 : wE.cell? ⟨w4.heap.size, 1, none⟩ = some (.string (S PO.key)) := by rw [hwE]; simp
          have y2 : wE.cell? ⟨w4.heap.size, 2, none⟩ = some (.string (S PO.val)) := by rw [hwE]; simp
          have y3 : wE.cell? ⟨w4.heap.size, 3, none⟩ = some (.int .u64 PO.delta) := by rw [hwE]; simp
          have hXE : Below w1.heap.size w1 wE := by rw [hwE]; exact hX4.alloc hz4 _
          clear hX4 hX3 hk4 hs4 hz4 hz3 hwE r0 r1 r2 r3 HR3 gi go_ q2 hen
          go_cut [160] (fun s wx => s = .bool false ∧ Below wE.heap.size wE wx)
          case first =>
            cases wb with
            | true =>
              obtain rfl := HPI.out rfl
              cases h1 : bl x low with
              | true =>
                exact absurd HWB.out (by unfold withinB; rw [h1]; simp)
              | false =>
                have h1' : Op.bytesLess x low = false := h1
                cases hh : high.isEmpty with
                | true =>
                  clear h1 HWB
                  go_wp2_with fail
                  go_meet
                  exact ⟨rfl, Below.refl _ _⟩
                | false =>
                  cases h2 : bl x high with
                  | true =>
                    have h2' : Op.bytesLess x high = true := h2
                    clear h1 HWB h2
                    go_wp2_with fail
                    go_meet
                    exact ⟨rfl, Below.refl _ _⟩
                  | false =>
                    exact absurd HWB.out (by unfold withinB; rw [h1, hh, h2]; simp)
            | false =>
              obtain rfl := HPO.out rfl
              cases h1 : bl x low with
              | true =>
                have h1' : Op.bytesLess x low = true := h1
                clear h1 HWB
                go_wp2_with fail
                go_meet
                exact ⟨rfl, Below.refl _ _⟩
              | false =>
                have h1' : Op.bytesLess x low = false := h1
                cases hh : high.isEmpty with
                | true =>
                  exact absurd HWB.out (by unfold withinB; rw [h1, hh]; simp)
                | false =>
                  cases h2 : bl x high with
                  | true =>
                    exact absurd HWB.out (by unfold withinB; rw [h1, hh, h2]; simp)
                  | false =>
                    have h2' : Op.bytesLess x high = false := h2
                    clear h1 HWB h2
                    go_wp2_with fail
                    go_meet
                    exact ⟨rfl, Below.refl _ _⟩
          case rest =>
            obtain ⟨rfl, hXc⟩ := hcut
            have u0 := kept_cell hXc t0
            have u1 := kept_cell hXc t1
            have u2 := kept_cell hXc t2
            have u3 := kept_cell hXc t3
            have hXc' := hXE.trans (hXc.mono hXE.size)
            clear t0 t1 t2 t3 v0 v1 v2 v3 y0 y1 y2 y3 hXc
            go_wp2_with fail
            obtain ⟨wG, hwG⟩ : ∃ W, W = wc.alloc (.cells #[.bool true, .bool false] 4) := ⟨_, rfl⟩
            rw [← hwG]
            have hXG : Below w1.heap.size w1 wG := by rw [hwG]; exact hXc'.alloc (by have := hXc'.size; omega) _
            have x0 : wG.cell? ⟨w2.heap.size, 0, none⟩ = some (.int .u8 X.kind) := by rw [hwG]; exact cell_past _ u0
            have x1 : wG.cell? ⟨w2.heap.size, 1, none⟩ = some (.string (S X.key)) := by rw [hwG]; exact cell_past _ u1
            have x2 : wG.cell? ⟨w2.heap.size, 2, none⟩ = some (.string (S X.val)) := by rw [hwG]; exact cell_past _ u2
            have x3 : wG.cell? ⟨w2.heap.size, 3, none⟩ = some (.int .u64 X.delta) := by rw [hwG]; exact cell_past _ u3
            have b0 : wG.cell? ⟨wc.heap.size, 0, none⟩ = some (.bool true) := by rw [hwG]; simp
            have b1 : wG.cell? ⟨wc.heap.size, 1, none⟩ = some (.bool false) := by rw [hwG]; simp
            have HX := Lib.hid (And.intro x0 (And.intro x1 (And.intro x2 x3)))
            have hbb : ∀ j, j < 2 → ∃ th, wG.cell? ⟨wc.heap.size, j, none⟩ = some (.bool th) := fun j hj => by
              match j, hj with
              | 0, _ => exact ⟨_, b0⟩
              | 1, _ => exact ⟨_, b1⟩
            have HBB := Lib.hid hbb
            have HXG := Lib.hid hXG
            clear hwG hXc' u0 u1 u2 u3 x0 x1 x2 x3 b0 b1 hbb hXG hXE
            go_loopw [163] (fun i wr => ∃ j : Nat, i = .int .i64 j ∧ j ≤ 2 ∧ Below wG.heap.size wG wr) (fun i _ => 2 - (intOf i).toNat)
            case atStart => exact ⟨0, rfl, by omega, Below.refl _ _⟩
            case round =>
              obtain ⟨j, rfl, hj, hI⟩ := hrel
              have hj0 : (0 : Int) ≤ (j : Int) := Int.natCast_nonneg _
              by_cases hj2 : j < 2
              · have hj1 : (j : Int) < 2 := by omega
                obtain ⟨th, hth⟩ := HBB.out j hj2
                have b := kept_cell hI hth
                obtain ⟨x0, x1, x2, x3⟩ := HX.out
                have z0 := kept_cell hI x0
                have z1 := kept_cell hI x1
                have z2 := kept_cell hI x2
                have z3 := kept_cell hI x3
                have HALL := Lib.hid (all_round us HUW.out x HJ.out VAL th)
                have hzI := hI.size
                clear x0 x1 x2 x3 hth
                go_wp2_with fail
                refine (thread (on_any VAL th X.kind X.key X.val X.delta (by omega) HXT.out.wf.1 HXT.out.wf.2 _) wG.heap.size wG hI hzI).mono ?_
                rintro e w5 ⟨he, hX5, -, -, -, hz5⟩
                unfold onV at he
                subst he
                clear z0 z1 z2 z3 b hI
                go_wp2_with fail
                refine (thread (msgAll_any VAL th c1v c2v c3v (grp us x) _ HCN.out (HS0.out.kept (HXG.out.trans (hX5.mono HXG.out.size)) (Nat.le_refl _)) (by have := grp_len us x; omega) HTG.out hvl) wG.heap.size wG hX5 hz5).mono ?_
                rintro e w6 ⟨he, hX6, -, -, -, hz6⟩
                rw [HALL.out] at he
                subst he
                clear hX5
                go_wp2_with fail
                go_roundw
                (case rel => exact ⟨j + 1, by go_num, by omega, hX6⟩)
                (case measure => first | (simp [intOf]; done) | (simp [intOf]; omega))
              · obtain rfl : j = 2 := by omega
                go_wp2_with fail
                have hXo : Below w1.heap.size w1 wr := HXG.out.trans (hI.mono HXG.out.size)
                go_roundw
                (case rel => exact ⟨_, _, HG1.out.on hXo⟩)
                (case measure => rw [(HG1.out.on hXo).rng.left_eq, HMS.out.2]; exact HMS.out.1)

end Go.Proofs.Ytcjeonamebnpfaa
