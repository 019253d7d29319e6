/-
  The walk of TableLast.
-/
import Derived.Test.YtblleinahlaohaaBta
import Derived.Test.YtblleinahlaohaaBmv
namespace Go.Proofs.Ytblleinahlaohaa
open Go.RowKit Go.Shelf
set_option linter.unusedVariables false
attribute [local go_sem ↓] Go.wp_at_zero Go.wp_at_succ

theorem keyZ (x : Int) (h0 : -9223372036854775808 ≤ x) (h1 : x ≤ 9223372036854775807) : keyOf Try.prog 3 (.int .i64 x) = some (.int .i64 x) := int_key h0 h1
theorem wfZ {x : Int} (h0 : -9223372036854775808 ≤ x) (h1 : x ≤ 9223372036854775807) : (Lit.int .i64 x).wf = true := by
  exact WalkArith.wf_i64 ⟨h0, h1⟩
theorem PlaceIs.elder {nb x p b : Int} {zs : List Int} (h : PlaceIs nb zs x p) (hne : x ≠ b) : PlaceIs nb (zs ++ [b]) x p := by
  have g : ∀ j, j < zs.length → (zs ++ [b])[j]?.getD 0 = zs[j]?.getD 0 := fun j hj => by rw [List.getElem?_append_left hj]
  have gl : ∀ j, zs.length ≤ j → j < (zs ++ [b]).length → (zs ++ [b])[j]?.getD 0 = b := fun j h1 h2 => by
    rw [List.length_append, List.length_singleton] at h2
    obtain rfl : j = zs.length := by omega
    simp
  rcases h with ⟨k, hk, e, hl, rfl⟩ | ⟨hl, rfl⟩
  · refine Or.inl ⟨k, by simp; omega, by rw [g k hk]; exact e, fun j h1 h2 => ?_, rfl⟩
    by_cases hj : j < zs.length
    · rw [g j hj]; exact hl j h1 hj
    · rw [gl j (by omega) h2]; exact fun e => hne e.symm
  · refine Or.inr ⟨fun j h2 => ?_, rfl⟩
    by_cases hj : j < zs.length
    · rw [g j hj]; exact hl j hj
    · rw [gl j (by omega) h2]; exact fun e => hne e.symm
theorem PlaceIs.last (nb b : Int) (zs : List Int) : PlaceIs nb (zs ++ [b]) b (nb + (zs.length : Nat)) :=
  Or.inl ⟨zs.length, by simp, by simp, fun j h1 h2 => by simp at h2; omega, rfl⟩
theorem PlaceIs.own {nb x : Int} {zs : List Int} (h : x ∉ zs) : PlaceIs nb zs x x :=
  Or.inr ⟨fun j hj e => h (by rw [List.getElem?_eq_getElem hj] at e; rw [← (show zs[j] = x from e)]; exact List.getElem_mem hj), rfl⟩
/-- Block b is the map of the blocks that were moved to their places. -/
structure AtMap (w : World) (b n : Nat) (nb : Int) (zs : List Int) : Prop where
  own : ∃ D : DataW Unit, w.ownsMap Try.prog 3 (plainElem Try.prog 3) b n D ∧ (∀ x : Int, Maps.has D (.int .i64 x) = decide (x ∈ zs)) ∧
    (∀ x p : Int, D.atKey (.int .i64 x) (.lit (.int .i64 0)) = .lit (.int .i64 p) → x ∈ zs → PlaceIs nb zs x p) ∧ (∀ l, MovedIs zs l → Maps.size D = l.length)
theorem AtMap.start (w : World) (nb : Int) : AtMap (w.alloc (.map #[] 0)) w.heap.size 0 nb [] :=
  ⟨.map [], World.ownsMap_made _ _ _ _, fun x => rfl, fun x p _ h => by simp at h, fun l h => by
    have : l = [] := List.eq_nil_iff_forall_not_mem.2 (fun x hx => by have := (h.2 x).1 hx; simp at this)
    rw [this]; rfl⟩
theorem AtMap.block {w : World} {b n : Nat} {nb : Int} {zs : List Int} (h : AtMap w b n nb zs) : ∃ es cl, w.heap[b]? = some (.map es cl) := by
  obtain ⟨D, ⟨es, cl, hb, _⟩, _⟩ := h.own
  exact ⟨es, cl, hb⟩
theorem AtMap.lt {w : World} {b n : Nat} {nb : Int} {zs : List Int} (h : AtMap w b n nb zs) : b < w.heap.size := let ⟨_, h1, _⟩ := h.own; h1.lt
theorem AtMap.kept {w w' : World} {b n : Nat} {nb : Int} {zs : List Int} (h : AtMap w b n nb zs) {row : Option Nat} (hg : w.grownBy w' row) (hne : some b ≠ row) : AtMap w' b n nb zs :=
  ⟨let ⟨D, h1, h2⟩ := h.own; ⟨D, h1.kept hg hne, h2⟩⟩
theorem AtMap.below {w w' : World} {b n : Nat} {nb : Int} {zs : List Int} (h : AtMap w b n nb zs) (hb : Below w.heap.size w w') : AtMap w' b n nb zs :=
  h.kept (row := none) ⟨hb.os, hb.tape, hb.output, hb.size, fun i hi _ => hb.block i hi⟩ (by simp)
theorem AtMap.setCell {w : World} {b n : Nat} {nb : Int} {zs : List Int} (h : AtMap w b n nb zs) {a : Addr} (ha : b ≠ a.block) (u : Value) : AtMap (w.setCell a u) b n nb zs :=
  ⟨let ⟨D, h1, h2⟩ := h.own; ⟨D, h1.setCell ha u, h2⟩⟩
theorem zeroZ (w : World) : (zeroValue 3).run Try.prog w = .ok (.int .i64 0) w := by kernel_rfl
theorem AtMap.look {w : World} {b n : Nat} {nb : Int} {zs : List Int} (h : AtMap w b n nb zs) (x : Int) (h0 : -9223372036854775808 ≤ x) (h1 : x ≤ 9223372036854775807) :
    ∃ c, (Instr.lookup 38 (.map (some b)) (.int .i64 x) true).run Try.prog w = .ok (.tuple #[.int .i64 c, .bool (decide (x ∈ zs))]) w ∧ (x ∈ zs → PlaceIs nb zs x c) := by
  obtain ⟨D, k1, k2, k3, -⟩ := h.own
  obtain ⟨v, ps, hrun, hv⟩ := k1.look_ok (Maps.int_keyed Try.underlying3) Try.underlying38 (zeroZ w) (plainElem_int (H := Unit) Try.underlying3 (by decide)) (keyZ x h0 h1)
  rw [k2 x] at hrun
  obtain ⟨c, rfl, hz, -⟩ := plainElem_int_inv Try.underlying3 hv
  exact ⟨c, hrun, fun hx => k3 x c (congrArg Prod.fst hz) hx⟩
theorem AtMap.len {w : World} {b n : Nat} {nb : Int} {zs l : List Int} (h : AtMap w b n nb zs) (hl : MovedIs zs l) (ty : TypeId) : (Builtin.len_ #[38] ty #[.map (some b)]).run Try.prog w = .ok (.int .i64 (l.length : Nat)) w := by
  obtain ⟨D, k1, -, -, k4⟩ := h.own
  rw [← k4 l hl]
  exact k1.len Try.underlying38 ty
theorem MovedIs.of_snoc {zs l : List Int} {b : Int} (h : MovedIs (zs ++ [b]) l) : (b ∈ zs → MovedIs zs l) ∧ (b ∉ zs → MovedIs zs (l.erase b) ∧ l.length = (l.erase b).length + 1) := by
  have hb : b ∈ l := (h.2 b).2 (by simp)
  have hnd : l.Nodup := h.1.imp fun {a b} hab => Int.ne_of_lt hab
  refine ⟨fun hz => ⟨h.1, fun x => ?_⟩, fun hz => ⟨⟨h.1.sublist List.erase_sublist, fun x => ?_⟩, ?_⟩⟩
  · rw [h.2 x, List.mem_append, List.mem_singleton]
    exact ⟨fun e => e.elim id (fun e => e ▸ hz), Or.inl⟩
  · rw [hnd.mem_erase_iff, h.2 x, List.mem_append, List.mem_singleton]
    exact ⟨fun ⟨h1, h2⟩ => h2.elim id (fun e => absurd e h1), fun hx => ⟨fun e => hz (e ▸ hx), Or.inl hx⟩⟩
  · rw [List.length_erase_of_mem hb]
    have := List.length_pos_of_mem hb
    omega
theorem wpList_putAt {w : World} {ops : Array Oper} {rest : List Oper} {o : Oper} {a : Act} {Q : Exit → Act → World → Prop}
    (hg : o.guard = none) (m x v : Operand) (hop : o.op = Op.mapUpdate 38 m x v) (b n : Nat) (nb : Int) (zs : List Int)
    (hm : a.eval m = .map (some b)) (h : AtMap w b n nb zs) (hn : n < maxLen) (key p : Int) (hx : a.eval x = .int .i64 key) (hv : a.eval v = .int .i64 p) (h0 : -9223372036854775808 ≤ key) (h1 : key ≤ 9223372036854775807) (hp : p = nb + (zs.length : Nat)) (p0 : -9223372036854775808 ≤ p) (p1 : p ≤ 9223372036854775807)
    (hK : ∀ w', AtMap w' b (n + 1) nb (zs ++ [key]) → w.grownBy w' (some b) → wpList Try.prog ops Q rest (a.put o.dst undef) w') :
    wpList Try.prog ops Q (o :: rest) a w := by
  obtain ⟨D, k1, k2, k3, k4⟩ := h.own
  refine wpList_mapUpdate_own _ hg m x v 38 hop 3 3 (Maps.int_keyed Try.underlying3) Try.underlying38 _ b n D hm k1 hn (.int .i64 key) (.int .i64 p) (.int .i64 key) hx hv (keyZ key h0 h1) (.lit (.int .i64 p)) [] (plainElem_int Try.underlying3 (wfZ p0 p1)) ?_
  intro w' hown' hg'
  refine hK w' ⟨_, hown', fun y => ?_, fun y q hq hy => ?_, fun l hl => ?_⟩ hg'
  · by_cases e : y = key
    · subst e
      rw [Maps.has_put_same k1.isMap (show WideAt.IsKeyLit (.int .i64 y) from trivial)]
      simp
    · rw [Maps.has_put_other (by simpa using e), k2 y]
      simp [e]
  · by_cases e : y = key
    · subst e
      rw [Maps.atKey_put_same k1.isMap (show WideAt.IsKeyLit (.int .i64 y) from trivial)] at hq
      have : p = q := by injection hq with hq; injection hq
      rw [← this, hp]
      exact PlaceIs.last nb y zs
    · rw [Maps.atKey_put_other (by simpa using e)] at hq
      have hy' : y ∈ zs := by simpa [e] using hy
      exact (k3 y q hq hy').elder e
  · have hs := hl.of_snoc
    rw [Maps.size_put (k1.tidy (Maps.int_keyed Try.underlying3)), k2 key]
    by_cases hz : key ∈ zs
    · simp only [hz, decide_true, if_true]
      exact k4 l (hs.1 hz)
    · obtain ⟨h7, h8⟩ := hs.2 hz
      simp only [hz, decide_false, if_false, Bool.false_eq_true]
      rw [k4 _ h7, h8]

theorem rem20 (y r : Nat) (h : y % 20 = r) (hy : y < 256) (w : World) : (binOp .rem 3 (.int .i64 (y : Nat)) (.int .i64 20)).run Try.prog w = .ok (.int .i64 (r : Nat)) w := by
  have h1 : ((y : Nat) : Int).tmod 20 = (r : Int) := by rw [Int.tmod_eq_emod_of_nonneg (by omega)]; omega
  simp [binOp, go_sem, h1]

set_option maxRecDepth 100000 in
set_option maxHeartbeats 16000000 in
theorem tableLast_walk (ao : Option Addr) (c : Nat) (l : List Int) (w : World) (hs : SlAt (fun x : Int => [Value.int .u8 x]) 1 w ao l) (hc : l.length ≤ c) (hx : ∀ x ∈ l, 0 ≤ x ∧ x < 256) (hl : (l.length : Int) ≤ 9223372036854775807) (hcc : (c : Int) ≤ 9223372036854775807) :
    Calls Try.prog 4 #[.slice ao l.length c] w fun e w' => e = .returned (.bool true) ∧ Below w.heap.size w w' := by
  have hmin := fun ts t a b w => run_tmin (P := Try.prog) ts t a b w
  have hm1 : tmin (l.length : Int) 9 = ((min l.length 9 : Nat) : Int) := tmin_nat l.length 9
  obtain ⟨m, hm⟩ : ∃ m, m = min l.length 9 := ⟨_, rfl⟩
  rw [← hm] at hm1
  have hcut := fun w => cut_By ao l.length c m (by omega) hc w
  have HS := Lib.hid hs
  have HX := Lib.hid hx
  have hml : m ≤ l.length := by omega
  have hm9 : m ≤ 9 := by omega
  clear hs hx hm
  go_enter Try.func4, Try.ntmps4
  go_wp2_with fail
  refine (new_ok 20 9 w (by decide) (by decide) (by decide) (by decide)).mono ?_
  rintro e w1 ⟨rfl, hB1⟩
  go_upto_region 2 with (fail)
  obtain ⟨w2, hw2⟩ : ∃ w2, w2 = w1.alloc (.cells #[.int .i64 20, .int .i64 9, .slice none 0 0] 25) := ⟨_, rfl⟩
  have b1 := Lib.hid (BoxT.new (w := w1) (nb := 20) (sp := 9) (sv := .slice none 0 0) (zs := []) rfl (Or.inl ⟨rfl, rfl⟩) 25)
  have hL2 := Lib.hid (hB1.trans ((show Below w1.heap.size w1 (w1.alloc (.cells #[.int .i64 20, .int .i64 9, .slice none 0 0] 25)) by go_grown).mono hB1.size))
  have hw1 := hB1.size
  rw [← hw2] at b1 hL2 ⊢
  clear hw2 hB1
  go_wp2_with fail
  refine (wakes06 w2).mono ?_
  rintro e w3 ⟨rfl, hB3⟩
  have b13 := Lib.hid (b1.out.on hB3)
  have hL3 := Lib.hid (hL2.out.trans (hB3.mono hL2.out.size))
  clear hB3 b1 hL2
  have hmm := @run_makeMap Try.prog
  have HK0 := Lib.hid (AtMap.start w3 20)
  have hXk : Below w3.heap.size w3 (w3.alloc (.map #[] 0)) := (Below.refl _ w3).alloc (Nat.le_refl _) _
  have b14 := Lib.hid (b13.out.on hXk)
  have hL4 := Lib.hid (hL3.out.trans (hXk.mono hL3.out.size))
  have hw3 := hL3.out.size
  have hbk : w1.heap.size < w3.heap.size := b13.out.lt
  clear hXk b13 hL3
  go_wp2_with fail
  go_loopw [32] (fun i wr => ∃ (j : Nat) (sa : Option Addr) (sn sc : Nat) (zs : List Int), i = .int .i64 j ∧ j ≤ m ∧ sn = j ∧ Hid (j = zs.length) ∧ Hid (∀ z ∈ zs, 0 ≤ z ∧ z < 20) ∧ Hid (BoxT wr w1.heap.size 20 9 (.slice sa sn sc) zs) ∧ Hid (∀ k, (Value.slice sa sn sc).ownBlock = some k → w1.heap.size < k) ∧ Hid (AtMap wr w3.heap.size j 20 zs) ∧ Hid (Below w.heap.size w wr)) (fun i _ => m - (intOf i).toNat)
  case atStart => exact ⟨0, none, 0, 0, [], rfl, Nat.zero_le _, rfl, Lib.hid rfl, Lib.hid (fun z hz => by simp at hz), b14, Lib.hid (fun k e => by simp [Value.ownBlock] at e), HK0, hL4⟩
  case round =>
    obtain ⟨j, sa, sn, sc, zs, rfl, hj, rfl, HSN, HZ, B, HV, HK, HB⟩ := hrel
    have hj0 : (0 : Int) ≤ (sn : Int) := Int.natCast_nonneg _
    have hzr := HB.out.size
    have hbl := B.out.lt
    have hkl := HK.out.lt
    by_cases hjm : sn < m
    · have hj1 : (sn : Int) < (m : Int) := by omega
      obtain ⟨b, off, rfl, hb, hcl⟩ := HS.out.at (by omega)
      have q0 := (cell_below HB.out hb _).trans (hcl sn (by omega) 0 _ rfl)
      simp only [Nat.add_zero, Nat.mul_one] at q0
      obtain ⟨hx0, hx1⟩ := HX.out _ (List.getElem_mem (show sn < l.length by omega))
      clear hcl
      generalize l[sn]'(by omega) = x at *
      obtain ⟨y, rfl⟩ := Int.eq_ofNat_of_zero_le hx0
      have hwy : IntKind.i64.wrap ((y : Nat) : Int) = ((y : Nat) : Int) := IntWalk.i64_in _ (by omega)
      have hr20 : 0 ≤ ((y : Nat) : Int) % 20 ∧ ((y : Nat) : Int) % 20 < 20 := by omega
      obtain ⟨k0, k1, k2, -, -⟩ := B.out
      go_wp2_with fail
      refine (move_ok 20 9 (.slice sa sn sc) zs (((y : Nat) : Int) % 20) wr B.out.ints hr20 (by have := HSN.out; omega) (by decide)).mono ?_
      rintro e w4 ⟨⟨v4, rfl, hi4, hv4⟩, hB4⟩
      obtain ⟨va, vc, hv⟩ := hi4.len
      rw [List.length_append, ← HSN.out, List.length_singleton] at hv
      subst hv
      have B4 := Lib.hid (B.out.on hB4)
      have HI4 := Lib.hid hi4
      have HV4 := Lib.hid hv4
      have HK4 := Lib.hid (HK.out.below hB4)
      have HL4 := Lib.hid (HB.out.trans (hB4.mono hzr))
      have hz4 := hB4.size
      clear k0 k1 k2 hi4 hv4 hB4 q0
      go_upto_region 9 with (fail)
      have hX : Below w4.heap.size w4 (w4.alloc (.cells #[.int .i64 20, .int .i64 9, .slice va (sn + 1) vc] 25)) := by go_grown
      have B7 := Lib.hid (BoxT.new (w := w4) (nb := 20) (sp := 9) rfl HI4.out 25)
      obtain ⟨w5, hw5⟩ : ∃ w5, w5 = w4.alloc (.cells #[.int .i64 20, .int .i64 9, .slice va (sn + 1) vc] 25) := ⟨_, rfl⟩
      have B5 := Lib.hid (B4.out.on hX)
      have HK5 := Lib.hid (HK4.out.below hX)
      have HL5 := Lib.hid (HL4.out.trans (hX.mono HL4.out.size))
      rw [← hw5] at B7 B5 HK5 HL5 ⊢
      clear hw5 hX B4 HI4 HL4 HK4
      obtain ⟨k0, k1, k2, -, -⟩ := B7.out
      go_wp2_with fail
      refine (left_any 20 9 va (sn + 1) vc w5 (by decide) (by decide) (by omega)).mono ?_
      rintro e w6 ⟨rfl, hB6⟩
      have hlf : (9 : Int) - ((sn + 1 : Nat) : Int) = 8 - (sn : Int) := by omega
      have hw8 : IntKind.i64.wrap (8 - (sn : Int)) = 8 - (sn : Int) := IntWalk.i64_in _ (by omega)
      rw [hlf]
      have B76 := Lib.hid (B7.out.on hB6)
      have B6 := Lib.hid (B5.out.on hB6)
      have HK6 := Lib.hid (HK5.out.below hB6)
      have HL6 := Lib.hid (HL5.out.trans (hB6.mono HL5.out.size))
      clear hB6 k0 k1 k2 B7 B5 HK5 HL5 hlf
      obtain ⟨k0, k1, k2, -, -⟩ := B76.out
      obtain ⟨r0, r1, r2, rg, -⟩ := B6.out
      have rg0 := rg 0
      have rg1 := rg 1
      have rg2 := rg 2
      go_upto_region 12 with (fail)
      obtain ⟨Z, hZ⟩ : ∃ Z, Z = ((w6.setCell ⟨w1.heap.size, 0, none⟩ (.int .i64 20)).setCell ⟨w1.heap.size, 1, none⟩ (.int .i64 9)).setCell ⟨w1.heap.size, 2, none⟩ (.slice va (sn + 1) vc) := ⟨_, rfl⟩
      have hvne : (Value.slice va (sn + 1) vc).ownBlock ≠ some w1.heap.size := fun e => by have := HV4.out _ e; omega
      obtain ⟨P1, P2⟩ := B6.out.put (nb' := 20) (sp' := 9) B76.out.ints hvne hZ
      have HKZ : AtMap Z w3.heap.size sn 20 zs := by rw [hZ]; exact ((HK6.out.setCell (a := ⟨w1.heap.size, 0, none⟩) (Nat.ne_of_gt hbk) _).setCell (a := ⟨w1.heap.size, 1, none⟩) (Nat.ne_of_gt hbk) _).setCell (a := ⟨w1.heap.size, 2, none⟩) (Nat.ne_of_gt hbk) _
      have HBZ := Lib.hid (P2 _ _ HL6.out hw1)
      have BZ := Lib.hid P1
      have HKZ' := Lib.hid HKZ
      rw [← hZ]
      clear hZ P1 P2 B76 B6 HK6 HL6 k0 k1 k2 r0 r1 r2 rg rg0 rg1 rg2 hvne
      have hsz20 : (20 : Int) + (sn : Int) = 20 + (zs.length : Nat) := by rw [← HSN.out]
      have HSZ := Lib.hid hsz20
      clear hsz20
      go_wp2_with (at_mapUpdate; refine wpList_putAt rfl _ _ _ rfl w3.heap.size sn 20 zs rfl HKZ (by unfold maxLen; omega) (((y : Nat) : Int) % 20) (20 + (sn : Int)) rfl rfl (by omega) (by omega) HSZ.out (by omega) (by omega) ?_; intro w8 hK8 hg8; go_frame)
      obtain ⟨es, cl, hmb⟩ := HKZ'.out.block
      have B8 := Lib.hid (BZ.out.grown hmb hg8)
      have HL8 := Lib.hid (below_grown HBZ.out hg8 (fun k e => by injection e with e; omega) HBZ.out.size)
      have HK8 := Lib.hid hK8
      have HZ8 : Hid (∀ z ∈ zs ++ [((y : Nat) : Int) % 20], 0 ≤ z ∧ z < 20) := Lib.hid (fun z hz => by
          rcases List.mem_append.1 hz with h1 | h1
          · exact HZ.out z h1
          · rw [List.mem_singleton.1 h1]; exact hr20)
      have HS8 : Hid (sn + 1 = (zs ++ [((y : Nat) : Int) % 20]).length) := Lib.hid (by rw [List.length_append, List.length_singleton, ← HSN.out])
      clear hK8 hg8 hmb HKZ HKZ' BZ HBZ HSZ hw8
      obtain ⟨zz, hzz⟩ : ∃ zz, zz = zs ++ [((y : Nat) : Int) % 20] := ⟨_, rfl⟩
      rw [← hzz] at B8 HK8 HZ8 HS8
      clear hzz
      go_loopw [61] (fun i wi => ∃ q : Nat, i = .int .i64 q ∧ q ≤ 20 ∧ Hid (BoxT wi w1.heap.size 20 9 (.slice va (sn + 1) vc) zz) ∧ Hid (AtMap wi w3.heap.size (sn + 1) 20 zz) ∧ Hid (Below w.heap.size w wi)) (fun i _ => 20 - (intOf i).toNat)
      case atStart => exact ⟨0, rfl, by omega, B8, HK8, HL8⟩
      case round =>
        obtain ⟨q, rfl, hq, G, HKi, HLi⟩ := hrel
        have hq0 : (0 : Int) ≤ (q : Int) := Int.natCast_nonneg _
        by_cases hq20 : q < 20
        · have hq1 : (q : Int) < 20 := by omega
          obtain ⟨cv, hlk, hcv⟩ := HKi.out.look (q : Nat) (by omega) (by omega)
          have HCV := Lib.hid hcv
          obtain ⟨k0, k1, k2, -, -⟩ := G.out
          clear hcv
          have hat := at_any 20 9 (.slice va (sn + 1) vc) zz (q : Nat) _ G.out.ints ⟨hq0, hq1⟩ (by decide) (by have := HS8.out; omega)
          by_cases hin : ((q : Nat) : Int) ∈ zz
          · rw [decide_eq_true hin] at hlk
            have HIN := Lib.hid hin
            clear hin
            go_wp2_with fail
            refine hat.mono ?_
            rintro e v1 ⟨⟨p, rfl, hp⟩, hB1⟩
            obtain rfl : p = cv := hp.unique (HCV.out HIN.out)
            have G1 := Lib.hid (G.out.on hB1)
            have HKi1 := Lib.hid (HKi.out.below hB1)
            have HLi1 := Lib.hid (HLi.out.trans (hB1.mono HLi.out.size))
            clear hB1 hp hlk
            go_wp2_with fail
            exact ⟨⟨q + 1, by go_num, by omega, G1, HKi1, HLi1⟩, by simp [intOf]; omega⟩
          · rw [decide_eq_false hin] at hlk
            have HIN := Lib.hid hin
            clear hin
            go_wp2_with fail
            refine hat.mono ?_
            rintro e v1 ⟨⟨p, rfl, hp⟩, hB1⟩
            obtain rfl : p = ((q : Nat) : Int) := hp.unique (PlaceIs.own HIN.out)
            have G1 := Lib.hid (G.out.on hB1)
            have HKi1 := Lib.hid (HKi.out.below hB1)
            have HLi1 := Lib.hid (HLi.out.trans (hB1.mono HLi.out.size))
            clear hB1 hp hlk
            go_wp2_with fail
            exact ⟨⟨q + 1, by go_num, by omega, G1, HKi1, HLi1⟩, by simp [intOf]; omega⟩
        · obtain rfl : q = 20 := by omega
          go_wp2_with fail
          exact ⟨⟨sn + 1, va, sn + 1, vc, zz, by go_num, by omega, rfl, HS8, HZ8, G, Lib.hid (fun k e => by have := HV4.out k e; omega), HKi, HLi⟩, by simp [intOf]; omega⟩
    · obtain rfl : sn = m := by omega
      obtain ⟨wq, hwq⟩ : ∃ wq, wq = wr := ⟨_, rfl⟩
      subst hwq
      obtain ⟨k0, k1, k2, -, -⟩ := B.out
      go_wp2_with fail
      refine (moved_any 20 9 (.slice sa sn sc) zs wq B.out.ints (by have := HSN.out; omega)).mono ?_
      rintro e w4 ⟨⟨v4, lm, rfl, hi4, hm4⟩, hB4⟩
      obtain ⟨va, vc, hv⟩ := hi4.len
      subst hv
      have hlen := fun ty => (HK.out.below hB4).len hm4 ty
      have HL4 := Lib.hid (HB.out.trans (hB4.mono hzr))
      clear hB4
      go_wp2_with fail
      go_ret
      exact ⟨rfl, HL4.out⟩

end Go.Proofs.Ytblleinahlaohaa
