/-
  The walk of (leaf.Leaf).Parts.
-/
import Derived.Test.YtcjeonamebnpfaaLeafP
import Derived.Test.YtcjeonamebnpfaaUse
import Derived.Deep.RegionHeld3
import Derived.Deep.DrawnRows
import Derived.BigQuiet
namespace Go.Proofs.Ytcjeonamebnpfaa
open Go.RowKit
attribute [local go_sem ↓] Go.wp_at_zero Go.wp_at_succ

def tmax (a b : Int) : Int := if b > a then b else a
theorem run_tmax {P : Program} (ts : Array TypeId) (t : TypeId) (a b : Int) (w : World) : (Builtin.max_ ts t #[.int .i64 a, .int .i64 b]).run P w = .ok (.int .i64 (tmax a b)) w := by
  rw [run_max_int2]; rfl

/-- How many parts there are. -/
def partsN (L m : Nat) : Nat := if L = 0 then 1 else (L - 1) / m + 1
theorem partsN_pos (L m : Nat) : 0 < partsN L m := by
  unfold partsN
  generalize (L - 1) / m = q
  split <;> omega
theorem partsN_le (L m : Nat) : partsN L m ≤ L + 1 := by
  unfold partsN
  split
  · omega
  · have := Nat.div_le_self (L - 1) m; omega
/-- As the program reckons it, whatever the most is. -/
theorem partsN_is (L : Nat) (hL : L ≤ 100000) (m : Int) (h1 : 1 ≤ m) (h2 : m ≤ 9223372036854775807) : tmax 1 (IntKind.i64.wrap ((IntKind.i64.wrap (IntKind.i64.wrap ((L : Int) + m) - 1)).tdiv m)) = (partsN L m.toNat : Nat) := by
  obtain ⟨k, rfl⟩ : ∃ k : Nat, m = (k : Int) := ⟨m.toNat, by omega⟩
  simp only [Int.toNat_natCast]
  have hk : 0 < k := by omega
  have hfin : ∀ x : Int, -9223372036854775808 ≤ x → x ≤ 0 → partsN L k = 1 → tmax 1 (IntKind.i64.wrap x) = (partsN L k : Nat) := fun x hx0 hx e => by rw [e, IntWalk.i64_in x (by omega)]; unfold tmax; split <;> omega
  by_cases hs : (L : Int) + k - 1 ≤ 9223372036854775807
  · have e : IntKind.i64.wrap (IntKind.i64.wrap ((L : Int) + k) - 1) = (L : Int) + k - 1 := by
      by_cases h : (L : Int) + k ≤ 9223372036854775807
      · rw [IntWalk.i64_in ((L : Int) + k) (by omega), IntWalk.i64_in _ (by omega)]
      · have : (L : Int) + k = 9223372036854775808 := by omega
        rw [this]; rfl
    rw [e]
    by_cases h0 : L = 0
    · subst h0
      have ez : (((0 : Nat) : Int) + k - 1).tdiv k = 0 := by
        rw [Int.tdiv_eq_ediv_of_nonneg (by omega)]
        exact Int.ediv_eq_zero_of_lt (by omega) (by omega)
      rw [ez]
      exact hfin 0 (by decide) (by decide) rfl
    · obtain ⟨j, rfl⟩ : ∃ j, L = j + 1 := ⟨L - 1, by omega⟩
      have e2 : ((j + 1 : Nat) : Int) + k - 1 = ((j + k : Nat) : Int) := by omega
      rw [e2, Int.tdiv_eq_ediv_of_nonneg (by omega), ← Int.natCast_ediv, Nat.add_div_right _ hk]
      have e3 : partsN (j + 1) k = j / k + 1 := by unfold partsN; rw [if_neg (by omega), Nat.add_sub_cancel]
      have e4 := Nat.div_le_self j k
      rw [e3]
      generalize j / k = q at *
      rw [IntWalk.i64_in _ (by omega)]
      unfold tmax
      split <;> omega
  · have hp : partsN L k = 1 := by
      unfold partsN
      split
      · rfl
      · rw [Nat.div_eq_of_lt (by omega)]
    have e1 : IntKind.i64.wrap ((L : Int) + k) = (L : Int) + k - 18446744073709551616 := by rw [IntKind.wrap_i64]; omega
    have e2 : IntKind.i64.wrap ((L : Int) + k - 18446744073709551616 - 1) = (L : Int) + k - 18446744073709551616 - 1 := by rw [IntKind.wrap_i64]; omega
    rw [e1, e2]
    generalize hx : (L : Int) + k - 18446744073709551616 - 1 = x
    have hx0 : x ≤ 0 := by omega
    obtain ⟨y, rfl⟩ : ∃ y : Nat, x = -(y : Int) := ⟨(-x).toNat, by omega⟩
    rw [Int.neg_tdiv, Int.tdiv_eq_ediv_of_nonneg (by omega), ← Int.natCast_ediv]
    have := Nat.div_le_self y k
    generalize y / k = q at *
    exact hfin _ (by omega) (by omega) hp

/-- Where a part begins, and the part. -/
def partAt (L n k : Nat) : Nat := k * (L / n) + min k (L % n)
def partOf (l : List Ent) (n k : Nat) : List Ent := (l.take (partAt l.length n (k + 1))).drop (partAt l.length n k)
theorem partAt_zero (L n : Nat) : partAt L n 0 = 0 := by simp [partAt]
theorem partAt_succ (L n k : Nat) : partAt L n (k + 1) = partAt L n k + L / n + (if k < L % n then 1 else 0) := by
  unfold partAt
  rw [Nat.succ_mul]
  split <;> omega
theorem partAt_all (L n : Nat) (hn : 0 < n) : partAt L n n = L := by
  unfold partAt
  have := Nat.div_add_mod L n
  have h2 := Nat.mod_lt L hn
  rw [Nat.min_eq_right (by omega)]
  exact this
theorem partAt_mono (L n k j : Nat) (h : k ≤ j) : partAt L n k ≤ partAt L n j := by
  unfold partAt
  have := Nat.mul_le_mul_right (L / n) h
  omega
theorem partAt_le (L n k : Nat) (hn : 0 < n) (h : k ≤ n) : partAt L n k ≤ L := by
  have := partAt_mono L n k n h
  rwa [partAt_all L n hn] at this
theorem partOf_len (l : List Ent) (n k : Nat) (hn : 0 < n) (h : k < n) : (partOf l n k).length = l.length / n + (if k < l.length % n then 1 else 0) := by
  unfold partOf
  have h1 := partAt_le l.length n (k + 1) hn (by omega)
  have h2 := partAt_succ l.length n k
  rw [List.length_drop, List.length_take, Nat.min_eq_left h1, h2]
  generalize l.length / n = q
  generalize (if k < l.length % n then 1 else 0) = q2
  omega

/-- A part in a cell: a row of its own. -/
def PartIs (w : World) (x : Value) (l : List Ent) : Prop := ∃ a c B, x = .slice a l.length c ∧ w.ownsRow B 54 2 (.slice a l.length c) l.length (cellsE l)
theorem PartIs.kept {w w' : World} {x : Value} {l : List Ent} (h : PartIs w x l) (hb : Below w.heap.size w w') : PartIs w' x l := by
  obtain ⟨a, c, B, e, h⟩ := h
  exact ⟨a, c, B, e, own_below h hb⟩
/-- The parts, in a row of the call's own. -/
structure PartsAt (B : Nat) (v : Value) (ls : Nat → List Ent) (n : Nat) (w : World) : Prop where
  form : ∃ vs, w.ownsRow B 45 1 v n vs ∧ ∀ j, j < n → ∃ x, vs[j]? = some x ∧ PartIs w x (ls j)
theorem PartsAt.on {B : Nat} {v : Value} {ls : Nat → List Ent} {n : Nat} {w w' : World} (h : PartsAt B v ls n w) (hb : Below w.heap.size w w') : PartsAt B v ls n w' := by
  obtain ⟨vs, h1, h2⟩ := h
  exact ⟨vs, own_below h1 hb, fun j hj => by obtain ⟨x, hx, hp⟩ := h2 j hj; exact ⟨x, hx, hp.kept hb⟩⟩
/-- Rows of unlike types are apart. -/
theorem own_types {w : World} {B B' : Nat} {E E' : TypeId} {k k' n n' : Nat} {v v' : Value} {xs xs' : List Value} (h : w.ownsRow B E k v n xs) (h' : w.ownsRow B' E' k' v' n' xs') (hne : E ≠ E') : v.ownBlock = none ∨ v.ownBlock ≠ v'.ownBlock := by
  rcases ownsRow_open h with ⟨rfl, -, -⟩ | ⟨g, cap, cur, rfl, -, hr, -⟩
  · exact Or.inl rfl
  · refine Or.inr fun e => ?_
    rcases ownsRow_open h' with ⟨rfl, -, -⟩ | ⟨g', cap', cur', rfl, -, hr', -⟩
    · simp [Value.ownBlock] at e
    · simp only [Value.ownBlock, Option.some.injEq] at e
      subst e
      have := hr.symm.trans hr'
      simp at this
      exact hne this.2
theorem parts_put {B B2 : Nat} {v v' : Value} {ls : Nat → List Ent} {n : Nat} {wr w2 w3 : World} {vs : List Value} {a2 : Option Addr} {m c2 : Nat} {t : TypeId} (h1 : wr.ownsRow B 45 1 v n vs) (h2 : ∀ j, j < n → ∃ x, vs[j]? = some x ∧ PartIs wr x (ls j)) (hb : Below wr.heap.size wr w2)
    (hm : m = (ls n).length) (hown2 : w2.ownsRow B2 54 2 (.slice a2 m c2) m (cellsE (ls n))) (hown' : w3.ownsRow B 45 1 v' (n + 1) (vs ++ [.slice a2 m c2])) (hg : (w2.alloc (.cells #[.slice a2 m c2] t)).grownBy w3 v.ownBlock) : PartsAt B v' ls (n + 1) w3 := by
  subst hm
  have hv2 : (w2.alloc (.cells #[.slice a2 (ls n).length c2] t)).ownsRow B 45 1 v n vs := (own_below h1 hb).alloc _
  have hl : vs.length = n := by have := h1.1; omega
  refine ⟨_, hown', fun j hj => ?_⟩
  by_cases hjn : j < n
  · obtain ⟨x, hx, a, c, B', e, ho⟩ := h2 j hjn
    refine ⟨x, by rw [List.getElem?_append_left (by omega)]; exact hx, a, c, B', e, ?_⟩
    have ho' : (w2.alloc (.cells #[.slice a2 (ls n).length c2] t)).ownsRow B' 54 2 (.slice a (ls j).length c) (ls j).length (cellsE (ls j)) := (own_below ho hb).alloc _
    exact ho'.kept hg (own_types ho' hv2 (by decide))
  · obtain rfl : j = n := by omega
    refine ⟨.slice a2 (ls j).length c2, by rw [List.getElem?_append_right (by omega), hl]; simp, a2, c2, B2, rfl, ?_⟩
    have ho' : (w2.alloc (.cells #[.slice a2 (ls j).length c2] t)).ownsRow B2 54 2 (.slice a2 (ls j).length c2) (ls j).length (cellsE (ls j)) := hown2.alloc _
    exact ho'.kept hg (own_types ho' hv2 (by decide))

theorem elemE : Try.prog.elem 43 = 54 := by kernel_rfl
theorem underE : Try.prog.underlying 43 = some (.slice (Try.prog.elem 43)) := by rw [elemE]; exact Try.underlying43
theorem sizeElemE (w : World) : (sizeOf (Try.prog.elem 43)).run Try.prog w = .ok 2 w := by kernel_rfl
/-- A piece of a slice of entries. -/
theorem partE_mid (ao : Option Addr) (n c i k : Nat) (l : List Ent) (w : World) (hs : SlAt Ent.cells 2 w ao l) (hl : l.length = n) (hnc : n ≤ c) (hc : (c : Int) ≤ 9223372036854775807) (hik : i ≤ k) (hkn : k ≤ n) (hno : ao = none → c = 0) :
    ∃ A, (∀ w, (Instr.slice 43 (.slice ao n c) (some (.int .i64 (i : Int))) (some (.int .i64 (k : Int))) none).run Try.prog w = .ok (.slice A (k - i) (c - i)) w) ∧ SlE w (.slice A (k - i) (c - i)) ((l.drop i).take (k - i)) := by
  have hlen : ((l.drop i).take (k - i)).length = k - i := by rw [List.length_take, List.length_drop]; omega
  refine ⟨if c = i then ao else ao.map (·.add (i * 2)), fun w => ?_, ?_⟩
  · rw [run_slice_lh w 43 ao n c underE .i64 .i64 i k (by omega) (by omega) (by omega)]
    rw [sizeElemE]; rfl
  · refine ⟨_, c - i, by rw [hlen], ?_, by rw [hlen]; omega, by omega, fun e => ?_⟩
    · by_cases h0 : i < n
      · rw [if_neg (by omega)]
        obtain ⟨b, off, rfl, hb, hcc⟩ := hs.at (by omega)
        rw [show (some (⟨b, off, none⟩ : Addr)).map (·.add (i * 2)) = some ⟨b, off + i * 2, none⟩ by simp [Addr.add]]
        exact (hs.drop i b off rfl).cut _
      · exact Or.inl (List.eq_nil_of_length_eq_zero (by omega))
    · by_cases h0 : c = i
      · omega
      · rw [if_neg h0] at e
        cases ao with
        | none => have := hno rfl; omega
        | some a => simp at e

theorem cell_one_new (w : World) (x : Value) (t : TypeId) : ∀ j v, [x][j]? = some v → (w.alloc (.cells #[x] t)).cell? ((⟨w.heap.size, 0, none⟩ : Addr).add j) = some v := by
  intro j v hj
  match j, hj with
  | 0, hj => simp at hj; subst hj; simp [Addr.add]

theorem infoL : (Try.prog.info? 45).map (fun i => (i.zero, i.size, i.bytes)) = some (some (.agg #[.slice none 0 0]), 1, 24) := by kernel_rfl

set_option maxRecDepth 100000 in
set_option maxHeartbeats 4000000 in
theorem parts_any (v : Value) (l : List Ent) (most : Int) (w : World) (hv : BoxE w v l) (hl : l.length ≤ 100000) (hm : most ≤ 9223372036854775807) :
    Calls Try.prog 17 #[v, .int .i64 most] w fun e w' => (∃ v', e = .returned v' ∧ PartsAt w.heap.size v' (partOf l (partsN l.length (tmax most 1).toNat)) (partsN l.length (tmax most 1).toNat) w') ∧ Below w.heap.size w w' := by
  have hmax := fun ts t a b w => run_tmax (P := Try.prog) ts t a b w
  obtain ⟨i0, hi, hz0, hz1, hzb⟩ := info_parts infoL
  have h1 : 1 ≤ tmax most 1 := by unfold tmax; split <;> omega
  have h2 : tmax most 1 ≤ 9223372036854775807 := by unfold tmax; split <;> omega
  have hn := partsN_is l.length hl (tmax most 1) h1 h2
  simp only [IntWalk.i64_left] at hn
  obtain ⟨m, hmd⟩ : ∃ m, tmax most 1 = m := ⟨_, rfl⟩
  rw [hmd] at hn h1 h2 ⊢
  have hpos := partsN_pos l.length m.toNat
  have hle := partsN_le l.length m.toNat
  generalize partsN l.length m.toNat = n at *
  obtain ⟨s, rfl, hs⟩ := hv
  have HS := Lib.hid hs
  obtain ⟨ao, c, rfl, hs0, hc1, hc2, hcn⟩ := hs
  have hn0 : ¬ (n : Int) = 0 := by omega
  have hm0 : ¬ m = 0 := by omega
  clear hs0 hcn h1 h2
  go_enter Try.func17, Try.ntmps17
  go_wp2_with fail
  go_quiet (fail)
  go_wp2_with fail
  have hqn := Nat.div_le_self l.length n
  have hrn := Nat.mod_lt l.length hpos
  have hq : wrap64 ((l.length : Int) / (n : Int)) = ((l.length / n : Nat) : Int) := by rw [← Int.natCast_ediv]; generalize l.length / n = q at *; exact IntWalk.wrap64_in _ (by omega)
  have hr : (l.length : Int) % (n : Int) = ((l.length % n : Nat) : Int) := by rw [Int.natCast_emod]
  rw [hq, hr]
  have hat : ∀ k, k < n → partAt l.length n (k + 1) = partAt l.length n k + l.length / n + (if k < l.length % n then 1 else 0) ∧ partAt l.length n (k + 1) ≤ l.length := fun k hk => ⟨partAt_succ _ _ _, partAt_le _ _ _ hpos (by omega)⟩
  have HAT := Lib.hid hat
  have hpl := Lib.hid (fun k (hk : k < n) => partOf_len l n k hpos hk)
  clear hat hq hr hmax hn
  have hW : Below (w.heap.size + 1) (w.alloc (.cells #[.slice ao l.length c] 45)) ((w.alloc (.cells #[.slice ao l.length c] 45)).drewN nq) := below_drewN (Below.refl _ _) nq
  generalize hq : l.length / n = q at *
  generalize hr : l.length % n = r at *
  go_loopw [34, 8, 9] (fun i v s wr => ∃ k : Nat, i = .int .i64 k ∧ k ≤ n ∧ s = .int .i64 (partAt l.length n k : Nat) ∧ PartsAt (w.heap.size + 1) v (partOf l n) k wr ∧ Below (w.heap.size + 1) (w.alloc (.cells #[.slice ao l.length c] 45)) wr) (fun i _ _ _ => n - (intOf i).toNat)
  case atStart => exact ⟨0, rfl, Nat.zero_le _, by rw [partAt_zero]; rfl, ⟨[], World.ownsRow_nil _ _ _ _, fun j hj => absurd hj (Nat.not_lt_zero j)⟩, hW⟩
  case round =>
    obtain ⟨k, rfl, hk, rfl, hP, hB⟩ := hrel
    have hk0 : (0 : Int) ≤ (k : Int) := Int.natCast_nonneg _
    have p0 : wr.cell? ⟨w.heap.size, 0, none⟩ = some (.slice ao l.length c) := (cell_below hB (by omega) 0).trans (by simp)
    by_cases hkn : k < n
    · have hk1 : (k : Int) < (n : Int) := by omega
      obtain ⟨e1, e2⟩ := HAT.out k hkn
      obtain ⟨vs, hv1, hv2⟩ := hP
      have HV := Lib.hid hv2
      have hbz : Below w.heap.size w wr := ((Below.refl w.heap.size w).alloc (Nat.le_refl _) _).trans (hB.mono (by omega))
      have hSr := Lib.hid (HS.out.kept hbz (Nat.le_refl _))
      obtain ⟨ao', c', e', hs0, -, -, hcn⟩ := hSr.out
      simp only [Value.slice.injEq] at e'
      obtain ⟨rfl, -, rfl⟩ := e'
      obtain ⟨A, hA1, hA2⟩ := partE_mid ao l.length c (partAt l.length n k) (partAt l.length n (k + 1)) l wr hs0 rfl hc1 hc2 (by omega) e2 hcn
      have hpl' := hpl.out k hkn
      have hdef : (l.drop (partAt l.length n k)).take (partAt l.length n (k + 1) - partAt l.length n k) = partOf l n k := by rw [partOf, List.drop_take]
      rw [hdef] at hA2
      have hAl : (partOf l n k).length ≤ 1000000 := by rw [hpl']; split <;> omega
      obtain ⟨d, hd⟩ : ∃ d, partAt l.length n (k + 1) - partAt l.length n k = d := ⟨_, rfl⟩
      rw [hd] at hA1 hA2
      clear hdef hpl' hd
      by_cases hkr : k < r
      · rw [if_pos hkr] at e1
        have hkr1 : (k : Int) < (r : Int) := by omega
        have hto : ((partAt l.length n (k + 1) : Nat) : Int) = (partAt l.length n k : Nat) + (q : Int) + 1 := by omega
        rw [hto] at hA1
        have hto' := Lib.hid hto
        have hw1 : IntKind.i64.wrap (((partAt l.length n k : Nat) : Int) + (q : Int)) = ((partAt l.length n k : Nat) : Int) + (q : Int) := IntWalk.i64_in _ (by omega)
        have hw2 : IntKind.i64.wrap (((partAt l.length n k : Nat) : Int) + (q : Int) + 1) = ((partAt l.length n k : Nat) : Int) + (q : Int) + 1 := IntWalk.i64_in _ (by omega)
        clear hto e1
        obtain ⟨a0, c0, e0⟩ := own_form hv1
        subst e0
        have hAt := Lib.hid hA2
        clear hA2 hs0 hv2
        go_wp2_with (first
          | (go_at_call 52; go_must (refine (cloneE _ (partOf l n k) _ hAt.out hAl).mono ?_; rintro e w2 ⟨⟨v2, rfl, hown2⟩, hB2⟩; obtain ⟨a2, c2, e2⟩ := own_form hown2; subst e2))
          | (at_builtin; go_must (refine wpList_append_own_at _ rfl _ _ 49 rfl (w.heap.size + 1) 45 i0 (.agg #[.slice none 0 0]) 1 24 Try.underlying49 hi hz0 hz1 hzb rfl (by decide) _ k vs rfl ((own_below hv1 hB2).alloc _) ⟨w2.heap.size, 0, none⟩ 1 1 [.slice a2 (partOf l n k).length c2] rfl rfl (cell_one_new _ _ _) (by simp [Value.oneCell']) (by unfold maxLen; omega) (by omega) (by have := hB2.size; have := hB.size; simp at this ⊢; omega) ?_; intro v' w3 hown' hgrow hnil hat)))
        have hP3 := parts_put hv1 HV.out hB2 rfl hown2 hown' hgrow
        have hB3 := below_grown ((hB.trans (hB2.mono (by have := hB.size; simp at this; omega))).alloc (by have := hB2.size; have := hB.size; simp at this ⊢; omega) (.cells #[.slice a2 (partOf l n k).length c2] 45)) hgrow (fun j e => ((own_below hv1 hB2).lt j e).1) (by have := hB2.size; have := hB.size; simp at this ⊢; omega)
        go_roundw
        (case rel => exact (⟨k + 1, by go_num, by omega, by rw [hto'.out], hP3, hB3⟩))
        (case measure => first | (simp [intOf]; done) | (simp [intOf]; omega))
      · rw [if_neg hkr] at e1
        have hkr1 : ¬ (k : Int) < (r : Int) := by omega
        have hto : ((partAt l.length n (k + 1) : Nat) : Int) = (partAt l.length n k : Nat) + (q : Int) := by omega
        rw [hto] at hA1
        have hto' := Lib.hid hto
        have hw1 : IntKind.i64.wrap (((partAt l.length n k : Nat) : Int) + (q : Int)) = ((partAt l.length n k : Nat) : Int) + (q : Int) := IntWalk.i64_in _ (by omega)
        clear hto e1
        obtain ⟨a0, c0, e0⟩ := own_form hv1
        subst e0
        have hAt := Lib.hid hA2
        clear hA2 hs0 hv2
        go_wp2_with (first
          | (go_at_call 52; go_must (refine (cloneE _ (partOf l n k) _ hAt.out hAl).mono ?_; rintro e w2 ⟨⟨v2, rfl, hown2⟩, hB2⟩; obtain ⟨a2, c2, e2⟩ := own_form hown2; subst e2))
          | (at_builtin; go_must (refine wpList_append_own_at _ rfl _ _ 49 rfl (w.heap.size + 1) 45 i0 (.agg #[.slice none 0 0]) 1 24 Try.underlying49 hi hz0 hz1 hzb rfl (by decide) _ k vs rfl ((own_below hv1 hB2).alloc _) ⟨w2.heap.size, 0, none⟩ 1 1 [.slice a2 (partOf l n k).length c2] rfl rfl (cell_one_new _ _ _) (by simp [Value.oneCell']) (by unfold maxLen; omega) (by omega) (by have := hB2.size; have := hB.size; simp at this ⊢; omega) ?_; intro v' w3 hown' hgrow hnil hat)))
        have hP3 := parts_put hv1 HV.out hB2 rfl hown2 hown' hgrow
        have hB3 := below_grown ((hB.trans (hB2.mono (by have := hB.size; simp at this; omega))).alloc (by have := hB2.size; have := hB.size; simp at this ⊢; omega) (.cells #[.slice a2 (partOf l n k).length c2] 45)) hgrow (fun j e => ((own_below hv1 hB2).lt j e).1) (by have := hB2.size; have := hB.size; simp at this ⊢; omega)
        go_roundw
        (case rel => exact (⟨k + 1, by go_num, by omega, by rw [hto'.out], hP3, hB3⟩))
        (case measure => first | (simp [intOf]; done) | (simp [intOf]; omega))
    · obtain rfl : k = n := by omega
      obtain ⟨vs, hv1, hv2⟩ := hP
      obtain ⟨a3, c3, e3⟩ := own_form hv1
      subst e3
      go_wp2_with fail
      go_ret
      exact ⟨⟨_, rfl, vs, own_base hv1 (by omega), hv2⟩, ((Below.refl w.heap.size w).alloc (Nat.le_refl _) _).trans (hB.mono (by omega))⟩

end Go.Proofs.Ytcjeonamebnpfaa
