/-
  The laws' acts: how a slice of them is opened, read, cut. The laws' key and update. The walk of shape: a tree of which nothing is saved is counted. What the shape of a tree is, in plain words. The walk of Shape, of a tree of which nothing is saved. The walk of TreeShapes. The walk of TreeShapes.
-/
import Derived.SizedLaws
import Derived.Deep.Slices
import Derived.Deep.Cut
import Derived.Test.YtafciefjlkdecaaGreatQsg
set_option maxRecDepth 100000
set_option maxHeartbeats 16000000
namespace Go.Proofs.YtafciefjlkdecaaGreat
open Go.ChangeShapes Go.WideShapes Go.ChangeAt Go.RowKit Go.Deep Go.Joins
structure ActQ where
 dv : Int
 kv : Int
 val : List UInt8
 dl : Nat
instance : Inhabited ActQ := ⟨⟨0, 0, [], 0⟩⟩
def ActQ.cells (x : ActQ) : List Value := [.int .i64 x.dv, .int .i64 x.kv, .string (S x.val), .int .u64 x.dl]
structure ActQ.Ok (x : ActQ) : Prop where
 dv : -9223372036854775808 ≤ x.dv ∧ x.dv ≤ 9223372036854775807
 kv : -9223372036854775808 ≤ x.kv ∧ x.kv ≤ 9223372036854775807
 val : x.val.length ≤ 140737488355328
 dl : x.dl < 18446744073709551616
structure ArgActs (w : World) (v : Value) (l : List ActQ) : Prop where
 form : ∃ ao c, v = .slice ao l.length c ∧ SlAt ActQ.cells 4 w ao l ∧ l.length ≤ c ∧ (c : Int) ≤ 9223372036854775807
 ok : ∀ x ∈ l, x.Ok
theorem SlAt.cellsQ {w : World} {ao : Option Addr} {l : List ActQ} (hs : SlAt ActQ.cells 4 w ao l) (i : Nat) (hi : i < l.length) :
  ∃ b off, ao = some ⟨b, off, none⟩ ∧ b < w.heap.size ∧ w.cell? ⟨b, off + i * 4, none⟩ = some (.int .i64 l[i].dv) ∧ w.cell? ⟨b, off + i * 4 + 1, none⟩ = some (.int .i64 l[i].kv) ∧ w.cell? ⟨b, off + i * 4 + 2, none⟩ = some (.string (S l[i].val)) ∧ w.cell? ⟨b, off + i * 4 + 3, none⟩ = some (.int .u64 l[i].dl) := by
 obtain ⟨b, off, rfl, hb, hc⟩ := hs.at (by omega)
 exact ⟨b, off, rfl, hb, hc i hi 0 _ rfl, hc i hi 1 _ rfl, hc i hi 2 _ rfl, hc i hi 3 _ rfl⟩
theorem takeQ {w : World} {ao : Option Addr} {l : List ActQ} (h : SlAt ActQ.cells 4 w ao l) (m : Nat) : SlAt ActQ.cells 4 w ao (l.take m) := by
 rcases h with rfl | ⟨b, off, rfl, hb, hc⟩
 ·exact Or.inl (by simp)
 ·refine Or.inr ⟨b, off, rfl, hb, fun i hi j x hx => ?_⟩
  have hi' : i < l.length := by rw [List.length_take] at hi; omega
  refine hc i hi' j x ?_
  rw [List.getElem_take] at hx
  exact hx
theorem underQ : Tryz.prog.underlying 47 = some (.slice (Tryz.prog.elem 47)) := by rw [show Tryz.prog.elem 47 = 51 by kernel_rfl]; exact Tryz.underlying47
theorem sizeElemQ (w : World) : (sizeOf (Tryz.prog.elem 47)).run Tryz.prog w = .ok 4 w := by kernel_rfl
theorem cut_Q (ao : Option Addr) (n c i : Nat) (hin : i ≤ n) (hnc : n ≤ c) (w : World) : (Instr.slice 47 (.slice ao n c) none (some (.int .i64 (i : Int))) none).run Tryz.prog w = .ok (.slice ao i c) w := by
 rw [run_slice_h w 47 ao n c underQ .i64 i (by omega) (by omega)]
 rw [sizeElemQ]
 have e : ao.map (·.add 0) = ao := by cases ao <;> simp [Addr.add]
 simp [Result.andThen, sliced, e]
theorem open_acts {H : Type} {enc : TypeId × Value → H} {P : Program} {w : World} {base : Nat} {spare : Nat → Bool} {held : Bool} {r : Reach} {bb0 : Nat} {t e : TypeId} {f0 f1 f2 f3 : Field} {v : Value} {d : DataW H} {p : List MemPlace}
  (ht : P.underlying t = some (.slice e)) (he : P.underlying e = some (.struct #[f0, f1, f2, f3])) (hone : oneCellFields P #[f0, f1, f2, f3] = true) (hC : P.cellsOf e = 4)
  (h0 : P.underlying f0.type = some (.int .i64)) (h1 : P.underlying f1.type = some (.int .i64)) (h2 : P.underlying f2.type = some .string) (h3 : P.underlying f3.type = some (.int .u64)) (hv : Value.okWide P w r bb0 t v)
  (h : DataW.Trod enc P w base spare held t v d p) (hsz : ∀ n ∈ d.weights P t, n ≤ reachBytes) : ∃ l, ArgActs w v l := by
 obtain ⟨a, len, cap, rfl⟩ := okWide_slice ht hv
 obtain ⟨fuel, hf⟩ := h
 rcases open_slice ht hf with ⟨hcs, -⟩ | ⟨a', len', cap', m, n, D, Pl, hcs, -, hl, hm, hmm, hx, hel⟩
 ·simp only [Value.cells, List.cons.injEq, and_true, Value.slice.injEq] at hcs
  obtain ⟨rfl, rfl, rfl⟩ := hcs
  exact ⟨[], ⟨none, 0, rfl, Or.inl rfl, Nat.le_refl _, by omega⟩, fun x hx => by simp at hx⟩
 ·simp only [Value.cells, List.cons.injEq, and_true, Value.slice.injEq] at hcs
  obtain ⟨rfl, rfl, rfl⟩ := hcs
  simp only [Prod.mk.injEq] at hx
  obtain ⟨rfl, rfl⟩ := hx
  have hlm : len ≤ m := by rw [hmm]; split <;> omega
  obtain ⟨o0, k0⟩ := hone_of hone 0 f0 rfl
  obtain ⟨o1, k1⟩ := hone_of hone 1 f1 rfl
  obtain ⟨o2, k2⟩ := hone_of hone 2 f2 rfl
  obtain ⟨o3, k3⟩ := hone_of hone 3 f3 rfl
  have key : ∀ i, i < len → ∃ u : ActQ, (∀ j x, (ActQ.cells u)[j]? = some x → w.cell? ((a'.add (i * 4)).add j) = some x) ∧ u.Ok := by
   intro i hi
   obtain ⟨cs', hcs, htr⟩ := hel i (by omega)
   rw [hC] at hcs
   obtain ⟨-, hlen, hcell⟩ := World.cells?_some hcs
   obtain ⟨y0, y1, y2, y3, n', hy, -, t0, t1, t2, t3⟩ := trod_struct4 he htr
   match cs', hlen with
   | [c0, c1, c2, c3], _ =>
    simp only [o0, o1, o2, o3, k0, k1, k2, k3] at t0 t1 t2 t3
    obtain ⟨x0, e0, g0, b0⟩ := DataW.trod_int h0 t0
    obtain ⟨x1, e1, g1, b1⟩ := DataW.trod_int h1 t1
    obtain ⟨s2, e2, g2, b2⟩ := DataW.trod_string h2 t2
    obtain ⟨x3, e3, g3, b3⟩ := DataW.trod_int h3 t3
    simp at e0 e1 e2 e3
    subst e0 e1 e2 e3
    have q0 := bounds_i64 b0
    have q1 := bounds_i64 b1
    have q3 := bounds_u64 b3
    obtain ⟨l2, rfl⟩ := S_ex s2
    have hD : D i = .agg [.lit (.int .i64 x0), .lit (.int .i64 x1), .lit (.string (S l2).data.toList), .lit (.int .u64 x3)] := by
     have := congrArg Prod.fst hy
     rw [g0, g1, g2, g3] at this
     exact this
    have hw : ∀ n ∈ (D i).weights P e, n ≤ reachBytes := fun n hn => hsz n (by
     simp only [DataW.weights, ht, List.mem_cons, List.mem_append]
     exact Or.inr (Or.inl (weights_mem_all (List.mem_map.2 ⟨i, List.mem_range.2 hi, rfl⟩) n hn)))
    rw [hD] at hw
    simp only [DataW.weights, he, DataW.weightsEach, List.map_cons, List.map_nil, List.nil_append, List.append_nil, S_data] at hw
    have w2 := hw l2.length (by simp)
    have hr := reachBytes_lt
    refine ⟨⟨x0, x1, l2, x3.toNat⟩, fun j x hj => ?_, ⟨q0, q1, by show l2.length ≤ _; omega, by show x3.toNat < 18446744073709551616; omega⟩⟩
    have ex3 : ((x3.toNat : Nat) : Int) = x3 := by omega
    have hj4 : j < 4 := by have := (List.getElem?_eq_some_iff.1 hj).1; simpa [ActQ.cells] using this
    rw [hcell j hj4, ← hj]
    simp only [ActQ.cells, ex3]
  obtain ⟨U, hU⟩ := choose_lt key
  have hmem : ∀ u ∈ (List.range len).map U, ∃ i, i < len ∧ u = U i := fun u hu => by
   obtain ⟨i, hi, rfl⟩ := List.mem_map.1 hu
   exact ⟨i, List.mem_range.1 hi, rfl⟩
  have hlen : ((List.range len).map U).length = len := by simp
  refine ⟨(List.range len).map U, ⟨some a', cap, by rw [hlen], ?_, by rw [hlen]; exact hl, by unfold maxLen at hm; omega⟩, fun u hu => ?_⟩
  ·by_cases hp : 0 < len
   ·have hc0 := (hU 0 hp).1 0 _ rfl
    obtain ⟨b, off, spot⟩ := a'
    have hspot : spot = none := by simpa [Addr.add] using World.cell?_spot hc0
    subst hspot
    refine Or.inr ⟨b, off, rfl, World.block_lt_of_cell? w _ hc0, fun i hi j x hx => ?_⟩
    have hi' : i < len := by rwa [hlen] at hi
    have := (hU i hi').1 j x (by simpa using hx)
    rw [Go.WideShapes.add_plain, Go.WideShapes.add_plain] at this
    exact this
   ·exact Or.inl (List.eq_nil_of_length_eq_zero (by omega))
  ·obtain ⟨i, hi, rfl⟩ := hmem u hu
   exact (hU i hi).2
open Go.RowKit
attribute [local go_sem ↓] Go.wp_at_zero Go.wp_at_succ
def kIx (n : Int) : Nat := (bmax 0 n).toNat % 60
def keyN (m : Nat) : List UInt8 := [UInt8.ofNat (97 + m / 8), UInt8.ofNat (97 + m % 8)].take (1 + m % 2)
def keyL (n : Int) : List UInt8 := keyN (kIx n)
theorem keyN_len (m : Nat) : (keyN m).length = 1 + m % 2 := by
 unfold keyN
 rw [List.length_take]
 simp only [List.length_cons, List.length_nil]
 omega
theorem key21 (n : Int) (w : World) (hn : -9223372036854775808 ≤ n ∧ n ≤ 9223372036854775807) :
  Calls Tryz.prog 27 #[.int .i64 n] w fun e w' => e = .returned (.string (S (keyL n))) ∧ Below w.heap.size w w' := by
 have hmax := fun ts t a b w => run_bmax (P := Tryz.prog) ts t a b w
 have hcv2 := fun w n c => run_str2 (P := Tryz.prog) 22 9 5 Tryz.underlying22 Tryz.underlying5 Tryz.underlying9 w n c
 obtain ⟨m, hm⟩ : ∃ m, m = kIx n := ⟨_, rfl⟩
 have hm60 : m < 60 := by rw [hm]; unfold kIx; omega
 have hb0 : 0 ≤ bmax 0 n := by unfold bmax; split <;> omega
 have h1 : (bmax 0 n).tmod 60 = (m : Int) := by rw [Int.tmod_eq_emod_of_nonneg hb0, hm]; unfold kIx; omega
 obtain ⟨q, hq⟩ : ∃ q, q = m / 8 := ⟨_, rfl⟩
 obtain ⟨r, hr⟩ : ∃ r, r = m % 8 := ⟨_, rfl⟩
 obtain ⟨t, ht⟩ : ∃ t, t = m % 2 := ⟨_, rfl⟩
 have h2 : (m : Int).tdiv 8 = (q : Int) := by rw [Int.tdiv_eq_ediv_of_nonneg (by omega), hq]; omega
 have h3 : (m : Int).tmod 8 = (r : Int) := by rw [Int.tmod_eq_emod_of_nonneg (by omega), hr]; omega
 have h4 : (m : Int).tmod 2 = (t : Int) := by rw [Int.tmod_eq_emod_of_nonneg (by omega), ht]; omega
 have hqb : q ≤ 7 := by omega
 have hrb : r ≤ 7 := by omega
 have htb : t ≤ 1 := by omega
 have HK : keyL n = [UInt8.ofNat (97 + q), UInt8.ofNat (97 + r)].take (1 + t) := by unfold keyL keyN; rw [← hm, hq, hr, ht]
 have w1 : IntKind.i64.wrap (m : Int) = (m : Int) := IntWalk.i64_in _ (by omega)
 have w2 : IntKind.i64.wrap (q : Int) = (q : Int) := IntWalk.i64_in _ (by omega)
 have w3 : IntKind.i64.wrap (r : Int) = (r : Int) := IntWalk.i64_in _ (by omega)
 have w4 : IntKind.i64.wrap (t : Int) = (t : Int) := IntWalk.i64_in _ (by omega)
 have w5 : IntKind.i64.wrap (97 + (q : Int)) = 97 + (q : Int) := IntWalk.i64_in _ (by omega)
 have w6 : IntKind.i64.wrap (97 + (r : Int)) = 97 + (r : Int) := IntWalk.i64_in _ (by omega)
 have w7 : IntKind.i64.wrap (1 + (t : Int)) = 1 + (t : Int) := IntWalk.i64_in _ (by omega)
 have w8 : IntKind.u8.wrap (97 + (q : Int)) = 97 + (q : Int) := IntWalk.u8_in _ (by omega)
 have w9 : IntKind.u8.wrap (97 + (r : Int)) = 97 + (r : Int) := IntWalk.u8_in _ (by omega)
 have HK' := Lib.hid HK
 clear HK hm hq hr ht hb0
 go_enter Tryz.func27, Tryz.ntmps27
 go_wp2_with fail
 go_ret
 exact ⟨by rw [HK'.out]; simp, by go_grown⟩
def updL (d k : Int) (val : List UInt8) (dl : Nat) : Upd := ⟨1 + (bmax 0 d).toNat % 3, keyL k, if (bmax 0 d).toNat % 3 = 0 then val.take 20 else [], if (bmax 0 d).toNat % 3 = 2 then dl else 0⟩
theorem updL_tm (d k : Int) (val : List UInt8) (dl : Nat) (h : dl < 18446744073709551616) : Tm (updL d k val dl) := by
 have hk : (updL d k val dl).key.length = 1 + kIx k % 2 := keyN_len _
 refine ⟨⟨?_, ?_⟩, ?_, ?_, ?_, ?_, ?_, ?_⟩
 ·show 1 + (bmax 0 d).toNat % 3 < 256; omega
 ·show (if _ then dl else 0) < _
  split <;> omega
 ·show 1 + (bmax 0 d).toNat % 3 = 1 ∨ 1 + (bmax 0 d).toNat % 3 = 2 ∨ 1 + (bmax 0 d).toNat % 3 = 3; omega
 ·show 1 + (bmax 0 d).toNat % 3 = 1 ∨ (if (bmax 0 d).toNat % 3 = 0 then val.take 20 else []) = []
  by_cases h : (bmax 0 d).toNat % 3 = 0
  ·exact Or.inl (by omega)
  ·exact Or.inr (by rw [if_neg h])
 ·show 1 + (bmax 0 d).toNat % 3 = 3 ∨ (if (bmax 0 d).toNat % 3 = 2 then dl else 0) = 0
  by_cases h : (bmax 0 d).toNat % 3 = 2
  ·exact Or.inl (by omega)
  ·exact Or.inr (by rw [if_neg h])
 ·omega
 ·omega
 ·show (if (bmax 0 d).toNat % 3 = 0 then val.take 20 else []).length ≤ 20
  split
  ·rw [List.length_take]; omega
  ·simp
theorem update21 (d k : Int) (val : List UInt8) (dl : Nat) (w : World) (hd : -9223372036854775808 ≤ d ∧ d ≤ 9223372036854775807) (hk : -9223372036854775808 ≤ k ∧ k ≤ 9223372036854775807) (hv : val.length ≤ 140737488355328) :
  Calls Tryz.prog 23 #[.agg #[.int .i64 d, .int .i64 k, .string (S val), .int .u64 dl]] w fun e w' => e = .returned (.tuple #[.agg #[.int .u8 (updL d k val dl).kind, .string (S (updL d k val dl).key), .string (S (updL d k val dl).val), .int .u64 (updL d k val dl).delta], .agg #[.int .u8 (updL d k val dl).kind, .string (S (updL d k val dl).key), .string (S (updL d k val dl).val), .int .u64 (updL d k val dl).delta]]) ∧ Below w.heap.size w w' := by
 have hmax := fun ts t a b w => run_bmax (P := Tryz.prog) ts t a b w
 have hmin := fun ts t a b w => run_tmin (P := Tryz.prog) ts t a b w
 have hm1 : tmin (val.length : Int) 20 = ((min val.length 20 : Nat) : Int) := tmin_nat val.length 20
 have hb0 : 0 ≤ bmax 0 d := by unfold bmax; split <;> omega
 obtain ⟨m, hm⟩ : ∃ m, m = (bmax 0 d).toNat % 3 := ⟨_, rfl⟩
 have hm3 : m < 3 := by omega
 have h1 : (bmax 0 d).tmod 3 = (m : Int) := by rw [Int.tmod_eq_emod_of_nonneg hb0, hm]; omega
 have hw1 : IntKind.i64.wrap (m : Int) = (m : Int) := IntWalk.i64_in _ (by omega)
 have hw2 : IntKind.i64.wrap (1 + (m : Int)) = 1 + (m : Int) := IntWalk.i64_in _ (by omega)
 have hw3 : IntKind.u8.wrap (1 + (m : Int)) = 1 + (m : Int) := IntWalk.u8_in _ (by omega)
 have hU0 : updL d k val dl = ⟨1 + m, keyL k, if m = 0 then val.take 20 else [], if m = 2 then dl else 0⟩ := by unfold updL; rw [← hm]
 obtain ⟨U, hU⟩ : ∃ U, U = updL d k val dl := ⟨_, rfl⟩
 rw [← hU] at hU0 ⊢
 have HU := Lib.hid hU0
 clear hU hU0
 have HK := Lib.hid (fun w' => key21 k w' hk)
 clear hm hb0
 go_enter Tryz.func23, Tryz.ntmps23
 go_upto_region 1 with (fail)
 obtain ⟨W, hW⟩ : ∃ W, W = ((w.alloc (.cells #[.int .i64 d, .int .i64 k, .string (S val), .int .u64 dl] 51)).alloc (.cells #[.int .u8 0, .string ⟨#[]⟩, .string ⟨#[]⟩, .int .u64 0] 39)).alloc (.cells #[.int .u8 0, .string ⟨#[]⟩, .string ⟨#[]⟩, .int .u64 0] 62) := ⟨_, rfl⟩
 have hX : Below w.heap.size w W := by rw [hW]; go_grown
 have hz1 : ∀ (w : World) x, (w.alloc x).heap.size = w.heap.size + 1 := fun w x => World.size_alloc _ _
 have HA := Lib.hid (show RowIs W 51 w.heap.size [.int .i64 d, .int .i64 k, .string (S val), .int .u64 dl] by
  rw [hW]
  exact ((RowIs.new w _ [.int .i64 d, .int .i64 k, .string (S val), .int .u64 dl]).on ((Below.refl _ _).alloc (Nat.le_refl _) _)).on ((Below.refl _ _).alloc (Nat.le_refl _) _))
 have HR := Lib.hid (show RowIs W 39 (w.heap.size + 1) [.int .u8 0, .string ⟨#[]⟩, .string ⟨#[]⟩, .int .u64 0] by
  rw [hW]
  exact (RowIs.new' _ _ _ _ (by simp)).on ((Below.refl _ _).alloc (Nat.le_refl _) _))
 have HQ := Lib.hid (show RowIs W 62 (w.heap.size + 1 + 1) [.int .u8 0, .string ⟨#[]⟩, .string ⟨#[]⟩, .int .u64 0] by
  rw [hW]
  exact RowIs.new' _ _ _ _ (by simp))
 try simp only [hz1]
 rw [← hW]
 clear hW hz1
 obtain ⟨ab, hab⟩ : ∃ ab, ab = w.heap.size := ⟨_, rfl⟩
 obtain ⟨rb, hrb⟩ : ∃ rb, rb = w.heap.size + 1 := ⟨_, rfl⟩
 obtain ⟨qb, hqb⟩ : ∃ qb, qb = w.heap.size + 1 + 1 := ⟨_, rfl⟩
 rw [← hqb, ← hrb, ← hab]
 rw [← hab] at HA
 rw [← hrb] at HR
 rw [← hqb] at HQ
 have hne : w.heap.size ≤ rb ∧ w.heap.size ≤ qb ∧ rb ≠ qb := by omega
 have HX := Lib.hid hX
 clear hab hrb hqb hX
 have a0 : W.cell? ⟨ab, 0, none⟩ = some (.int .i64 d) := HA.out.cell 0
 have a1 : W.cell? ⟨ab, 1, none⟩ = some (.int .i64 k) := HA.out.cell 1
 have hal := HA.out.lt
 have a0a : ∀ x, (W.alloc x).cell? ⟨ab, 0, none⟩ = some (.int .i64 d) := fun x => (World.cell?_alloc_past _ _ _ hal).trans a0
 have a1a : ∀ x, (W.alloc x).cell? ⟨ab, 1, none⟩ = some (.int .i64 k) := fun x => (World.cell?_alloc_past _ _ _ hal).trans a1
 go_cut [4] from 5 to 14 (fun s4 wx => ∃ nb, s4 = .pointer (some ⟨nb, 0, none⟩) ∧ Hid (RowIs wx 62 nb [.int .u8 (1 + (m : Int)), .string (S (keyL k)), .string ⟨#[]⟩, .int .u64 0]) ∧ Hid (Below W.heap.size W wx) ∧ W.heap.size ≤ nb)
 case first =>
  have hN : RowIs (W.alloc (.cells #[.int .u8 0, .string ⟨#[]⟩, .string ⟨#[]⟩, .int .u64 0] 62)).drew 62 W.heap.size [.int .u8 0, .string ⟨#[]⟩, .string ⟨#[]⟩, .int .u64 0] := (RowIs.new W _ [.int .u8 0, .string ⟨#[]⟩, .string ⟨#[]⟩, .int .u64 0]).on (below_drew' (Below.refl _ _))
  have HN := Lib.hid hN
  have hd : Below W.heap.size W W.drew := below_drew' (Below.refl _ _)
  have hda : Below W.heap.size W (W.alloc (.cells #[.int .u8 0, .string ⟨#[]⟩, .string ⟨#[]⟩, .int .u64 0] 62)).drew := below_drew' ((Below.refl _ _).alloc (Nat.le_refl _) _)
  have HD := Lib.hid (And.intro hd hda)
  clear hN hd hda
  go_region_law (first | (go_simp; go_at_call 27; refine (HK.out _).mono ?_; rintro e w3 ⟨rfl, hX3⟩; have ra3 : RowIs w3 51 ab [.int .i64 d, .int .i64 k, .string (S val), .int .u64 dl] := (by first | exact (HA.out.on HD.out.1).on hX3 | exact (HA.out.on HD.out.2).on hX3); have y0 : w3.cell? ⟨ab, 0, none⟩ = some (.int .i64 d) := ra3.cell 0; have y0a : ∀ x, (w3.alloc x).cell? ⟨ab, 0, none⟩ = some (.int .i64 d) := fun x => (World.cell?_alloc_past _ _ _ ra3.lt).trans y0; try have hr3 := HN.out.on hX3; try have n0 : w3.cell? ⟨W.heap.size, 0, none⟩ = some (.int .u8 0) := hr3.cell 0; try have n1 : w3.cell? ⟨W.heap.size, 1, none⟩ = some (.string ⟨#[]⟩) := hr3.cell 1; try have n2 : w3.cell? ⟨W.heap.size, 2, none⟩ = some (.string ⟨#[]⟩) := hr3.cell 2; try have n3 : w3.cell? ⟨W.heap.size, 3, none⟩ = some (.int .u64 0) := hr3.cell 3; try have nf := hr3.frozen))
  all_goals
   have HX3 := Lib.hid hX3
   clear hX3 y0 y0a ra3
   go_wp2_with fail
   go_meet
   first
    | (have hh := hr3.put 0 (.int .u8 (1 + (m : Int))); exact ⟨_, rfl, Lib.hid (((hh.put 1 _).put 2 _).put 3 _), Lib.hid ((((((HD.out.2.trans (HX3.out.mono HD.out.2.size)).setCell (p := ⟨W.heap.size, 0, none⟩) (Nat.le_refl _) _).setCell (p := ⟨W.heap.size, 1, none⟩) (Nat.le_refl _) _).setCell (p := ⟨W.heap.size, 2, none⟩) (Nat.le_refl _) _)).setCell (p := ⟨W.heap.size, 3, none⟩) (Nat.le_refl _) _), Nat.le_refl _⟩)
    | exact ⟨w3.heap.size, rfl, Lib.hid (RowIs.new w3 _ [.int .u8 (1 + (m : Int)), .string (S (keyL k)), .string ⟨#[]⟩, .int .u64 0]), Lib.hid (((HD.out.1.trans (HX3.out.mono HD.out.1.size))).alloc HX3.out.size _), HX3.out.size⟩
 case rest =>
 obtain ⟨nb, rfl, HN, HB, hnb⟩ := hcut
 obtain ⟨w3, hw3⟩ : ∃ w3, w3 = wc := ⟨_, rfl⟩
 subst hw3
 have HA3 := Lib.hid (HA.out.on HB.out)
 have HR3 := Lib.hid (HR.out.on HB.out)
 have HQ3 := Lib.hid (HQ.out.on HB.out)
 have hlt : ab < nb ∧ rb < nb ∧ qb < nb := by
  have h1 := HA.out.lt
  have h2 := HR.out.lt
  have h3 := HQ.out.lt
  omega
 have HB3 := Lib.hid (HX.out.trans (HB.out.mono HX.out.size))
 have hwn : w.heap.size ≤ nb := Nat.le_trans HX.out.size hnb
 clear HA HR HQ HB HX hnb a0 a1 a0a a1a hal HK hmax
 have n0 : w3.cell? ⟨nb, 0, none⟩ = some (.int .u8 (1 + (m : Int))) := HN.out.cell 0
 have n1 : w3.cell? ⟨nb, 1, none⟩ = some (.string (S (keyL k))) := HN.out.cell 1
 have n2 : w3.cell? ⟨nb, 2, none⟩ = some (.string ⟨#[]⟩) := HN.out.cell 2
 have n3 : w3.cell? ⟨nb, 3, none⟩ = some (.int .u64 0) := HN.out.cell 3
 have nf2 := HN.out.frozen 2
 have nf3 := HN.out.frozen 3
 have a2 : w3.cell? ⟨ab, 2, none⟩ = some (.string (S val)) := HA3.out.cell 2
 have a3 : w3.cell? ⟨ab, 3, none⟩ = some (.int .u64 dl) := HA3.out.cell 3
 go_upto_if 17 with (fail)
 go_cut [] from 15 to 25 (fun wx => Hid (RowIs wx 62 nb [.int .u8 (1 + (m : Int)), .string (S (keyL k)), .string (S U.val), .int .u64 0]) ∧ Hid (Keep (fun x => x = nb) w3 wx))
 case first =>
  have hcs : m = 0 ∨ m = 1 ∨ m = 2 := by omega
  rcases hcs with rfl | rfl | rfl
  ·replace n0 : w3.cell? ⟨nb, 0, none⟩ = some (.int .u8 1) := n0
   have e2 : val.take (min val.length 20) = val.take 20 := by
    rcases Nat.le_total val.length 20 with h | h
    ·rw [Nat.min_eq_left h, List.take_of_length_le (Nat.le_refl _), List.take_of_length_le h]
    ·rw [Nat.min_eq_right h]
   have E2 := Lib.hid e2
   clear e2
   go_wp2_with fail
   go_meet
   rw [HU.out]
   refine ⟨Lib.hid ?_, Lib.hid ((Keep.refl (fun x => x = nb) w3).setCell ⟨nb, 2, none⟩ (Or.inl rfl) _)⟩
   rw [E2.out]
   exact HN.out.put 2 _
  ·replace n0 : w3.cell? ⟨nb, 0, none⟩ = some (.int .u8 2) := n0
   go_wp2_with fail
   go_meet
   rw [HU.out]
   exact ⟨Lib.hid HN.out, Lib.hid (Keep.refl _ _)⟩
  ·replace n0 : w3.cell? ⟨nb, 0, none⟩ = some (.int .u8 3) := n0
   go_wp2_with fail
   go_meet
   rw [HU.out]
   exact ⟨Lib.hid HN.out, Lib.hid (Keep.refl _ _)⟩
 case rest =>
 obtain ⟨HN5, HK5⟩ := hcut
 obtain ⟨w5, hw5⟩ : ∃ w5, w5 = wc := ⟨_, rfl⟩
 subst hw5
 have n0' : w5.cell? ⟨nb, 0, none⟩ = some (.int .u8 (1 + (m : Int))) := HN5.out.cell 0
 have n3' : w5.cell? ⟨nb, 3, none⟩ = some (.int .u64 0) := HN5.out.cell 3
 have nf3' := HN5.out.frozen 3
 have a3' : w5.cell? ⟨ab, 3, none⟩ = some (.int .u64 dl) := (HK5.out.row HA3.out (show ¬ ab = nb by omega)).cell 3
 clear n0 n1 n2 n3 nf2 nf3 a2 a3
 go_upto_if 28 with (fail)
 go_cut [] from 26 to 31 (fun wx => Hid (RowIs wx 62 nb [.int .u8 U.kind, .string (S U.key), .string (S U.val), .int .u64 U.delta]) ∧ Hid (Keep (fun x => x = nb) w5 wx))
 case first =>
  have hcs : m = 0 ∨ m = 1 ∨ m = 2 := by omega
  rcases hcs with rfl | rfl | rfl
  ·replace n0' : w5.cell? ⟨nb, 0, none⟩ = some (.int .u8 1) := n0'
   go_wp2_with fail
   go_meet
   rw [HU.out] at HN5 ⊢
   exact ⟨Lib.hid HN5.out, Lib.hid (Keep.refl _ _)⟩
  ·replace n0' : w5.cell? ⟨nb, 0, none⟩ = some (.int .u8 2) := n0'
   go_wp2_with fail
   go_meet
   rw [HU.out] at HN5 ⊢
   exact ⟨Lib.hid HN5.out, Lib.hid (Keep.refl _ _)⟩
  ·replace n0' : w5.cell? ⟨nb, 0, none⟩ = some (.int .u8 3) := n0'
   go_wp2_with fail
   go_meet
   rw [HU.out] at HN5 ⊢
   exact ⟨Lib.hid (HN5.out.put 3 _), Lib.hid ((Keep.refl (fun x => x = nb) w5).setCell ⟨nb, 3, none⟩ (Or.inl rfl) _)⟩
 case rest =>
 obtain ⟨HN6, HK6⟩ := hcut
 obtain ⟨w6, hw6⟩ : ∃ w6, w6 = wc := ⟨_, rfl⟩
 subst hw6
 replace HK6 := Lib.hid (HK5.out.trans' HK6.out)
 have HR6 := Lib.hid (HK6.out.row HR3.out (show ¬ rb = nb by omega))
 have HQ6 := Lib.hid (HK6.out.row HQ3.out (show ¬ qb = nb by omega))
 have HB6 := Lib.hid (HB3.out.trans (HK6.out.below HB3.out.size (fun x hx => by rw [show x = nb from hx]; exact hwn)))
 have m0 : w6.cell? ⟨nb, 0, none⟩ = some (.int .u8 U.kind) := HN6.out.cell 0
 have m1 : w6.cell? ⟨nb, 1, none⟩ = some (.string (S U.key)) := HN6.out.cell 1
 have m2 : w6.cell? ⟨nb, 2, none⟩ = some (.string (S U.val)) := HN6.out.cell 2
 have m3 : w6.cell? ⟨nb, 3, none⟩ = some (.int .u64 U.delta) := HN6.out.cell 3
 have r0 : w6.cell? ⟨rb, 0, none⟩ = some (.int .u8 0) := HR6.out.cell 0
 have r1 : w6.cell? ⟨rb, 1, none⟩ = some (.string ⟨#[]⟩) := HR6.out.cell 1
 have r2 : w6.cell? ⟨rb, 2, none⟩ = some (.string ⟨#[]⟩) := HR6.out.cell 2
 have r3 : w6.cell? ⟨rb, 3, none⟩ = some (.int .u64 0) := HR6.out.cell 3
 have q0 : w6.cell? ⟨qb, 0, none⟩ = some (.int .u8 0) := HQ6.out.cell 0
 have q1 : w6.cell? ⟨qb, 1, none⟩ = some (.string ⟨#[]⟩) := HQ6.out.cell 1
 have q2 : w6.cell? ⟨qb, 2, none⟩ = some (.string ⟨#[]⟩) := HQ6.out.cell 2
 have q3 : w6.cell? ⟨qb, 3, none⟩ = some (.int .u64 0) := HQ6.out.cell 3
 have rf := HR6.out.frozen
 have qf := HQ6.out.frozen
 have hn1 : nb ≠ rb := by omega
 have hn2 : nb ≠ qb := by omega
 have hn3 : rb ≠ qb := hne.2.2
 have hn4 : qb ≠ rb := fun e => hn3 e.symm
 clear n0' n3' nf3' a3' HN HN5 HK5 HA3 HR3 HQ3 HB3 HK6
 go_upto_region 6 with (fail)
 go_region
 all_goals
  obtain ⟨W7, hW7⟩ : ∃ W7, W7 = (((((((w6.setCell ⟨rb, 0, none⟩ (.int .u8 U.kind)).setCell ⟨rb, 1, none⟩ (.string (S U.key))).setCell ⟨rb, 2, none⟩ (.string (S U.val))).setCell ⟨rb, 3, none⟩ (.int .u64 U.delta)).setCell ⟨qb, 0, none⟩ (.int .u8 U.kind)).setCell ⟨qb, 1, none⟩ (.string (S U.key))).setCell ⟨qb, 2, none⟩ (.string (S U.val))).setCell ⟨qb, 3, none⟩ (.int .u64 U.delta) := ⟨_, rfl⟩
  have HR7 := Lib.hid (show RowIs W7.drew 39 rb [.int .u8 U.kind, .string (S U.key), .string (S U.val), .int .u64 U.delta] from by
   rw [hW7]
   exact ((((((((HR6.out.put 0 _).put 1 _).put 2 _).put 3 _).far ⟨qb, 0, none⟩ hn3 _).far ⟨qb, 1, none⟩ hn3 _).far ⟨qb, 2, none⟩ hn3 _).far ⟨qb, 3, none⟩ hn3 _).on (below_drew' (Below.refl _ _)))
  have HQ7 := Lib.hid (show RowIs W7.drew 62 qb [.int .u8 U.kind, .string (S U.key), .string (S U.val), .int .u64 U.delta] from by
   rw [hW7]
   exact ((((((((HQ6.out.far ⟨rb, 0, none⟩ hn4 _).far ⟨rb, 1, none⟩ hn4 _).far ⟨rb, 2, none⟩ hn4 _).far ⟨rb, 3, none⟩ hn4 _).put 0 _).put 1 _).put 2 _).put 3 _).on (below_drew' (Below.refl _ _)))
  have HB7 := Lib.hid (show Below w.heap.size w W7.drew from by
   rw [hW7]
   exact below_drew' ((((((((HB6.out.setCell hne.1 _).setCell hne.1 _).setCell hne.1 _).setCell hne.1 _).setCell hne.2.1 _).setCell hne.2.1 _).setCell hne.2.1 _).setCell hne.2.1 _))
  rw [← hW7]
  obtain ⟨W8, hW8⟩ : ∃ W8, W8 = W7.drew := ⟨_, rfl⟩
  rw [← hW8] at HR7 HQ7 HB7 ⊢
  clear hW8 hW7 m0 m1 m2 m3 r0 r1 r2 r3 q0 q1 q2 q3 rf qf
  have y0 : W8.cell? ⟨rb, 0, none⟩ = some (.int .u8 U.kind) := HR7.out.cell 0
  have y1 : W8.cell? ⟨rb, 1, none⟩ = some (.string (S U.key)) := HR7.out.cell 1
  have y2 : W8.cell? ⟨rb, 2, none⟩ = some (.string (S U.val)) := HR7.out.cell 2
  have y3 : W8.cell? ⟨rb, 3, none⟩ = some (.int .u64 U.delta) := HR7.out.cell 3
  have x0 : W8.cell? ⟨qb, 0, none⟩ = some (.int .u8 U.kind) := HQ7.out.cell 0
  have x1 : W8.cell? ⟨qb, 1, none⟩ = some (.string (S U.key)) := HQ7.out.cell 1
  have x2 : W8.cell? ⟨qb, 2, none⟩ = some (.string (S U.val)) := HQ7.out.cell 2
  have x3 : W8.cell? ⟨qb, 3, none⟩ = some (.int .u64 U.delta) := HQ7.out.cell 3
  go_wp2_with fail
  exact bodyPost_ret (v := .tuple #[.agg #[.int .u8 U.kind, .string (S U.key), .string (S U.val), .int .u64 U.delta], .agg #[.int .u8 U.kind, .string (S U.key), .string (S U.val), .int .u64 U.delta]]) (by simp [results, Tryz.results23, go_sem, y0, y1, y2, y3, x0, x1, x2, x3]) rfl ⟨rfl, HB7.out⟩
open Go.RowKit
attribute [local go_sem ↓] Go.wp_at_zero Go.wp_at_succ
structure Cnt4 where
 l : Nat
 i : Nat
 e : Nat
 w : Nat
def Cnt4.add (a b : Cnt4) : Cnt4 := ⟨a.l + b.l, a.i + b.i, a.e + b.e, a.w + b.w⟩
def cnt4 : Nat → Vt → Cnt4
 | 0, v => ⟨1, 0, v.es.length, 0⟩
 | n + 1, v => (v.ch.map fun x => cnt4 n x.2).foldl Cnt4.add ⟨0, 1, 0, v.us.length⟩
theorem Cnt4.add_assoc (a b c : Cnt4) : (a.add b).add c = a.add (b.add c) := by simp only [Cnt4.add, Nat.add_assoc]
theorem fold_add (l : List Cnt4) : ∀ a b : Cnt4, a.add (l.foldl Cnt4.add b) = l.foldl Cnt4.add (a.add b) := by
 induction l with
 | nil => exact fun _ _ => rfl
 | cons x l ih => exact fun a b => by rw [List.foldl_cons, List.foldl_cons, ih, Cnt4.add_assoc]
structure Cnt4.Le (a b : Cnt4) : Prop where
 l : a.l ≤ b.l
 i : a.i ≤ b.i
 e : a.e ≤ b.e
 w : a.w ≤ b.w
theorem Cnt4.Le.trans {a b c : Cnt4} (h : a.Le b) (k : b.Le c) : a.Le c := ⟨Nat.le_trans h.l k.l, Nat.le_trans h.i k.i, Nat.le_trans h.e k.e, Nat.le_trans h.w k.w⟩
theorem Cnt4.le_add (a b : Cnt4) : a.Le (a.add b) := ⟨Nat.le_add_right _ _, Nat.le_add_right _ _, Nat.le_add_right _ _, Nat.le_add_right _ _⟩
theorem fold_le (l : List Cnt4) : ∀ a : Cnt4, a.Le (l.foldl Cnt4.add a) := by
 induction l with
 | nil => exact fun a => ⟨Nat.le_refl _, Nat.le_refl _, Nat.le_refl _, Nat.le_refl _⟩
 | cons x l ih => exact fun a => (a.le_add x).trans (ih _)
theorem fold_take (l : List Cnt4) (a : Cnt4) (j : Nat) : ((l.take j).foldl Cnt4.add a).Le (l.foldl Cnt4.add a) := by
 have := fold_le (l.drop j) ((l.take j).foldl Cnt4.add a)
 rwa [← List.foldl_append, List.take_append_drop] at this
abbrev c4 (c : Cnt4) : List Value := [.int .i64 c.l, .int .i64 c.i, .int .i64 c.e, .int .i64 c.w]
theorem Mem.loaded {w : World} {n : Nat} {v : Vt} (h : Mem w n v) (ha : addrs n v = []) : v.ld = true := by
 have hk : ∀ p, v.kn ≠ some p := fun p e => by
  cases n with
  | zero => rw [addrs_zero, e] at ha; simp at ha
  | succ n => rw [addrs_succ, e] at ha; simp at ha
 cases n with
 | zero =>
  rcases h.2 with q | q
  ·exact q.ld
  ·obtain ⟨p, e, -⟩ := q.ex; exact absurd e (hk p)
 | succ n =>
  rcases h.2 with ⟨q, -⟩ | ⟨q, -⟩
  ·exact q.ld
  ·obtain ⟨p, e, -⟩ := q.ex; exact absurd e (hk p)
theorem addrs_kid {n : Nat} {v : Vt} (ha : addrs (n + 1) v = []) {x : Chd × Vt} (hx : x ∈ v.ch) : addrs n x.2 = [] := by
 rw [addrs_succ] at ha
 have := (List.append_eq_nil_iff.1 ha).2
 unfold addrsK at this
 exact List.flatMap_eq_nil_iff.1 this x hx
abbrev ShpAt (w : World) (b : Nat) (c : Cnt4) : Prop := RwAt w 77 b (c4 c)
def ShOut (w : World) (sb : Nat) (c : Cnt4) (n : Nat) (v : Vt) (e : Ending) (w' : World) : Prop := e = .returned (.int .i64 0) ∧ Keep (fun x => x = sb) w w' ∧ ShpAt w' sb (c.add (cnt4 n v))
def Small4 (c : Cnt4) : Prop := c.l ≤ 100000000 ∧ c.i ≤ 100000000 ∧ c.e ≤ 100000000 ∧ c.w ≤ 100000000
theorem shape_zero {v : Vt} (tb sb : Nat) (c : Cnt4) (w : World) (hm : Mem w 0 v) (ha : addrs 0 v = []) (hs : ShpAt w sb c) (hb : Small4 c) (hes : v.es.length ≤ 1002) :
  Calls Tryz.prog 56 #[.pointer (some ⟨tb, 0, none⟩), .pointer (some ⟨v.b, 0, none⟩), .int .i64 1, .pointer (some ⟨sb, 0, none⟩)] w fun e w' => ShOut w sb c 0 v e w' := by
 have hl := hm.loaded ha
 obtain ⟨-, pa, pg, ps, la, lc, hv, -, hbx⟩ := hm.leaf hl
 have HFI := Lib.hid (fun w' (hb : Below w.heap.size w w') => fetch_in (.pointer (some ⟨tb, 0, none⟩)) 1 w' (hv.on hb))
 have HLN := Lib.hid (fun w' => lenE_next la v.es.length lc w')
 have HS := Lib.hid (And.intro hs hv)
 obtain ⟨b1, b2, b3, b4⟩ := hb
 clear hm hs hv hbx
 go_enter Tryz.func56, Tryz.ntmps56
 go_wp2_with fail
 refine (HFI.out w (Below.refl _ _)).mono ?_
 rintro e w2 ⟨rfl, hX2⟩
 have q0 := (HS.out.1.on hX2).cell 0
 have q2 := (HS.out.1.on hX2).cell 2
 have f0 := (HS.out.1.on hX2).fz 0
 have f2 := (HS.out.1.on hX2).fz 2
 have v5 := (HS.out.2.on hX2).c5
 replace q0 : w2.cell? ⟨sb, 0, none⟩ = some (.int .i64 c.l) := q0
 replace q2 : w2.cell? ⟨sb, 2, none⟩ = some (.int .i64 c.e) := q2
 have hne : v.b ≠ sb := fun q => by
  have h1 := HS.out.2.row
  rw [q] at h1
  exact absurd (h1.one HS.out.1.row).1 (by decide)
 have HN := Lib.hid (And.intro hne hX2)
 clear hne hX2
 go_upto_region 6 with (fail)
 obtain ⟨W3, hW3⟩ : ∃ W3, W3 = w2.setCell ⟨sb, 0, none⟩ (.int .i64 ((c.l : Int) + 1)) := ⟨_, rfl⟩
 have r3 : RwAt W3 77 sb [.int .i64 ((c.l : Int) + 1), .int .i64 c.i, .int .i64 c.e, .int .i64 c.w] := by
  rw [hW3]; exact ⟨(HS.out.1.on HN.out.2).row.put 0 _⟩
 have k3 : Keep (fun x => x = sb) w W3 := by
  rw [hW3]
  exact (Keep.of_below (S := fun x => x = sb) HN.out.2).setCell ⟨sb, 0, none⟩ (Or.inl rfl) _
 have v53 : W3.cell? ⟨v.b, 5, none⟩ = some (.slice la v.es.length lc) := by rw [hW3]; exact far_block (fun q => HN.out.1 q) v5
 have q23 : W3.cell? ⟨sb, 2, none⟩ = some (.int .i64 c.e) := r3.cell 2
 have f23 := r3.fz 2
 have HR3 := Lib.hid (And.intro r3 k3)
 rw [← hW3]
 clear hW3 r3 k3 q0 q2 f0 f2 v5
 have hdr : Below W3.heap.size W3 W3.drew := below_drew' (Below.refl _ _)
 have hw : IntKind.i64.wrap ((c.e : Int) + (v.es.length : Int)) = (c.e : Int) + (v.es.length : Int) := IntWalk.i64_in _ (by omega)
 go_region_law (first | (go_simp; go_at_call 68; refine (HLN.out _).mono ?_; rintro e w4 ⟨rfl, hX4⟩; have q24 := kept_cell hX4 (cell_drew q23); have f24 := kept_frozen hX4 (cell_drew q23) (frozen_drew f23)))
 all_goals
  have hX34 := hdr.trans (hX4.mono (Nat.le_refl _))
  have r4 := HR3.out.1.on hX34
  have k4 : Keep (fun x => x = sb) w (w4.setCell ⟨sb, 2, none⟩ (.int .i64 ((c.e : Int) + v.es.length))) := (HR3.out.2.on hX34).setCell ⟨sb, 2, none⟩ (Or.inl rfl) _
  have HR4 := Lib.hid (And.intro r4 k4)
  clear hX34 r4 k4
  go_wp2_with fail
  go_ret
  show ShOut w sb c 0 v (.returned (.int .i64 0)) _
  exact ⟨rfl, HR4.out.2, ⟨HR4.out.1.row.put 2 _⟩⟩
def ShAll (n : Nat) : Prop := ∀ (tb : Nat) (v : Vt) (sb : Nat) (c : Cnt4) (w : World) (hh : Int), Mem w n v → addrs n v = [] → ShpAt w sb c → Small4 (c.add (cnt4 n v)) → pot n v ≤ 1000 → hh = (n : Int) + 1 → n ≤ 100 →
 Calls Tryz.prog 56 #[.pointer (some ⟨tb, 0, none⟩), .pointer (some ⟨v.b, 0, none⟩), .int .i64 hh, .pointer (some ⟨sb, 0, none⟩)] w fun e w' => ShOut w sb c n v e w'
theorem small_le {a b : Cnt4} (h : a.Le b) (k : Small4 b) : Small4 a := ⟨Nat.le_trans h.l k.1, Nat.le_trans h.i k.2.1, Nat.le_trans h.e k.2.2.1, Nat.le_trans h.w k.2.2.2⟩
theorem Mem.shp {w w' : World} {n : Nat} {v : Vt} {sb : Nat} {c : Cnt4} (hm : Mem w n v) (hs : ShpAt w sb c) (hk : Keep (fun x => x = sb) w w') : Mem w' n v :=
 hm.keep hk (fun b e => by rw [show b = sb from e]; exact Soft.of hs.row (fun s => by simp) (by decide)) fun b hb e => by
  obtain ⟨cur, hc⟩ := hm.cells b hb
  rw [show b = sb from e] at hc
  exact absurd (hc.one hs.row).1 (by decide)
theorem shape_succ (n : Nat) (IH : ShAll n) : ShAll (n + 1) := by
 intro tb v sb c w hh hm ha hs hb hp hhh hn100
 have hl := hm.loaded ha
 obtain ⟨⟨-, pa, pg, ps, b1, y1, b2, y2, b3, y3, hv, -, -, hkd⟩, hkm⟩ := hm.node hl
 have HFI := Lib.hid (fun w' (hb : Below w.heap.size w w') => fetch_in (.pointer (some ⟨tb, 0, none⟩)) hh w' (hv.on hb))
 have HLN := Lib.hid (fun w' => lenU_next b2 v.us.length y2 w')
 have hsz := pot_us hp
 have hpos : ¬ (hh = 1) := by omega
 have hhb : 2 ≤ hh ∧ hh ≤ 1000 := by omega
 have HS := Lib.hid (And.intro hs (And.intro hv (And.intro hm (And.intro ha (And.intro hkd (And.intro hkm (And.intro hp hhh)))))))
 have HB := Lib.hid hb
 have hb1 : c.l ≤ 100000000 ∧ c.i ≤ 100000000 ∧ c.e ≤ 100000000 ∧ c.w ≤ 100000000 := small_le (c.le_add _) hb
 obtain ⟨b1', b2', b3', b4'⟩ := hb1
 have HIH := Lib.hid IH
 clear hm hs hv hkd hkm ha hp hhh hb IH
 go_enter Tryz.func56, Tryz.ntmps56
 go_wp2_with fail
 refine (HFI.out w (Below.refl _ _)).mono ?_
 rintro e w2 ⟨rfl, hX2⟩
 have q1 : w2.cell? ⟨sb, 1, none⟩ = some (.int .i64 c.i) := (HS.out.1.on hX2).cell 1
 have f1 := (HS.out.1.on hX2).fz 1
 have HX2 := Lib.hid hX2
 clear hX2
 go_upto_region 9 with (fail)
 obtain ⟨W3, hW3⟩ : ∃ W3, W3 = w2.setCell ⟨sb, 1, none⟩ (.int .i64 ((c.i : Int) + 1)) := ⟨_, rfl⟩
 have r3 : RwAt W3 77 sb [.int .i64 c.l, .int .i64 ((c.i : Int) + 1), .int .i64 c.e, .int .i64 c.w] := by
  rw [hW3]; exact ⟨(HS.out.1.on HX2.out).row.put 1 _⟩
 have k3 : Keep (fun x => x = sb) w W3 := by
  rw [hW3]
  exact (Keep.of_below (S := fun x => x = sb) HX2.out).setCell ⟨sb, 1, none⟩ (Or.inl rfl) _
 have hvn : v.b ≠ sb := fun q => by
  have h1 := HS.out.2.1.row
  rw [q] at h1
  exact absurd (h1.one HS.out.1.row).1 (by decide)
 have hv3 := k3.vx HS.out.2.1 hvn
 have v73 := hv3.c7
 have q33 : W3.cell? ⟨sb, 3, none⟩ = some (.int .i64 c.w) := r3.cell 3
 have f33 := r3.fz 3
 have HR3 := Lib.hid (And.intro r3 (And.intro k3 hvn))
 rw [← hW3]
 clear hW3 r3 k3 q1 f1 hv3 hvn
 have hdr : Below W3.heap.size W3 W3.drew := below_drew' (Below.refl _ _)
 have hw : IntKind.i64.wrap ((c.w : Int) + (v.us.length : Int)) = (c.w : Int) + (v.us.length : Int) := IntWalk.i64_in _ (by omega)
 obtain ⟨c0, hc0⟩ : ∃ c0 : Cnt4, c0 = c.add ⟨0, 1, 0, v.us.length⟩ := ⟨_, rfl⟩
 have HC0 := Lib.hid hc0
 clear hc0
 go_cut [] from 23 to 71 (fun wx => Hid (Keep (fun x => x = sb) w wx ∧ ShpAt wx sb c0))
 case first =>
  go_region_law (first | (go_simp; go_at_call 63; refine (HLN.out _).mono ?_; rintro e w4 ⟨rfl, hX4⟩; have q34 := kept_cell hX4 (cell_drew q33); have f34 := kept_frozen hX4 (cell_drew q33) (frozen_drew f33)))
  all_goals
   have hX34 := hdr.trans (hX4.mono (Nat.le_refl _))
   have r4 := HR3.out.1.on hX34
   have k4 : Keep (fun x => x = sb) w (w4.setCell ⟨sb, 3, none⟩ (.int .i64 ((c.w : Int) + v.us.length))) := (HR3.out.2.1.on hX34).setCell ⟨sb, 3, none⟩ (Or.inl rfl) _
   have HR4 := Lib.hid (And.intro r4 k4)
   clear hX34 r4 k4
   go_wp2_with fail
   go_meet
   refine Lib.hid ⟨HR4.out.2, ?_⟩
   rw [HC0.out]
   exact ⟨HR4.out.1.row.put 3 _⟩
 case rest =>
 obtain ⟨w5, hw5⟩ : ∃ w5, w5 = wc := ⟨_, rfl⟩
 subst hw5
 have HK5 := hcut
 clear hcut v73 q33 f33 hdr hw HLN HFI
 have hv5 := HK5.out.1.vx HS.out.2.1 HR3.out.2.2
 have c8 := hv5.c8
 have hkd5 : KdAt w5 (.slice b3 v.ch.length y3) (v.ch.map fun x => x.2.b) := KdAt.keep HS.out.2.2.2.2.1 HK5.out.1 fun b e => by rw [show b = sb from e]; exact Soft.of HS.out.1.row (fun s => by simp) (by decide)
 have HKD := Lib.hid hkd5
 obtain ⟨CL, hCL⟩ : ∃ CL, CL = v.ch.map fun x => cnt4 n x.2 := ⟨_, rfl⟩
 have HCL := Lib.hid hCL
 have hcl : CL.length = v.ch.length := by rw [hCL, List.length_map]
 have HCN := Lib.hid hcl
 obtain ⟨nk, hnk⟩ : ∃ nk, nk = v.ch.length := ⟨_, rfl⟩
 rw [← hnk] at c8 hsz
 have HNK := Lib.hid hnk
 clear hv5 hkd5 hCL hcl hnk
 go_wp2_with fail
 go_loopw [72] (fun i wx => ∃ j : Nat, i = .int .i64 j ∧ j ≤ nk ∧ Hid (Keep (fun x => x = sb) w5 wx ∧ ShpAt wx sb ((CL.take j).foldl Cnt4.add c0))) (fun i _ => nk - (intOf i).toNat)
 case atStart => exact ⟨0, rfl, Nat.zero_le _, Lib.hid ⟨Keep.refl _ _, HK5.out.2⟩⟩
 case round =>
  obtain ⟨j, rfl, hj, HR⟩ := hrel
  have hj0 : (0 : Int) ≤ (j : Int) := Int.natCast_nonneg _
  by_cases hjl : j < nk
  ·have hj1 : (j : Int) < (nk : Int) := by omega
   have hkl : j < v.ch.length := by rw [← HNK.out]; exact hjl
   obtain ⟨x, hx⟩ : ∃ x, x = v.ch[j] := ⟨_, rfl⟩
   have hxm : x ∈ v.ch := by rw [hx]; exact List.getElem_mem hkl
   have hkr : wr.ownsRow 0 97 1 (.slice b3 nk y3) nk ((v.ch.map fun x => x.2.b).map vp) := by
    have : KdAt wr (.slice b3 v.ch.length y3) (v.ch.map fun x => x.2.b) := KdAt.keep HKD.out HR.out.1 fun b e => by rw [show b = sb from e]; exact Soft.of HS.out.1.row (fun s => by simp) (by decide) |> fun q => ⟨(Soft.of HK5.out.2.row (fun s => by simp) (by decide)).str, (Soft.of HK5.out.2.row (fun s => by simp) (by decide)).row⟩
    have : wr.ownsRow 0 97 1 (.slice b3 v.ch.length y3) (v.ch.map fun x => x.2.b).length ((v.ch.map fun x => x.2.b).map vp) := this
    rw [List.length_map, ← HNK.out] at this
    exact this
   obtain ⟨g3, rfl, -, -, hgc⟩ := own_at hkr (by omega)
   have r0 : wr.cell? ⟨g3, j, none⟩ = some (.pointer (some ⟨x.2.b, 0, none⟩)) := by
    have := hgc j (vp x.2.b) (by rw [List.getElem?_map, List.getElem?_map, List.getElem?_eq_getElem hkl, hx]; rfl)
    simpa using this
   have HCA := Lib.hid (fun (q : Int) (hq : q = (n : Int) + 1) => by
    obtain ⟨hs, hv, hm, ha, hkd, hkm, hp, hhh⟩ := HS.out
    have e1 : (CL.take (j + 1)).foldl Cnt4.add c0 = ((CL.take j).foldl Cnt4.add c0).add (cnt4 n x.2) := by
     rw [List.take_succ_eq_append_getElem (by rw [HCN.out]; exact hkl), List.foldl_append]
     show Cnt4.add _ (CL[j]'(by rw [HCN.out]; exact hkl)) = _
     congr 1
     simp only [HCL.out, List.getElem_map, hx]
    have h2 := HIH.out tb x.2 sb ((CL.take j).foldl Cnt4.add c0) wr q ((hkm x hxm).shp hs (HK5.out.1.trans' HR.out.1)) (addrs_kid ha hxm) HR.out.2 (by
     rw [← e1]
     refine small_le (fold_take CL c0 (j + 1)) ?_
     rw [HC0.out, ← fold_add, HCL.out]
     exact HB.out) (pot_kid hp hxm) hq (by omega)
    exact And.intro h2 e1)
   clear hkr hgc hx hxm
   go_wp2_with fail
   refine ((HCA.out _ (by have := HS.out.2.2.2.2.2.2.2; omega)).1).mono ?_
   rintro e w7 ⟨rfl, hk7, hs7⟩
   have H7 := Lib.hid (show Keep (fun x => x = sb) w5 w7 ∧ ShpAt w7 sb ((CL.take (j + 1)).foldl Cnt4.add c0) from ⟨HR.out.1.trans' hk7, by rw [(HCA.out _ rfl).2]; exact hs7⟩)
   clear hk7 hs7 r0
   go_wp2_with fail
   exact ⟨⟨j + 1, by go_num, by omega, H7⟩, by simp [intOf]; omega⟩
  ·obtain rfl : j = nk := by omega
   go_wp2_with fail
   go_ret
   show ShOut w sb c (n + 1) v (.returned (.int .i64 0)) wr
   refine ⟨rfl, HK5.out.1.trans' HR.out.1, ?_⟩
   have h1 := HR.out.2
   rw [List.take_of_length_le (Nat.le_of_eq (HCN.out.trans HNK.out.symm)), HC0.out, ← fold_add, HCL.out] at h1
   exact h1
theorem shape_any : ∀ n, ShAll n
 | 0 => fun tb v sb c w hh hm ha hs hb hp hhh _ => by
  obtain rfl : hh = 1 := by omega
  have h5 := pot_es hp
  exact shape_zero tb sb c w hm ha hs (small_le (c.le_add _) hb) h5
 | n + 1 => shape_succ n (shape_any n)
end Go.Proofs.YtafciefjlkdecaaGreat
namespace Go.Proofs.YtafciefjlkdecaaGreat
open Go.RowKit
theorem fold_l (l : List Cnt4) : ∀ z : Cnt4, (l.foldl Cnt4.add z).l = z.l + (l.map Cnt4.l).sum := by
 induction l with
 | nil => exact fun z => by simp
 | cons x l ih => exact fun z => by rw [List.foldl_cons, ih, List.map_cons, List.sum_cons]; show z.l + x.l + _ = _; omega
theorem fold_i (l : List Cnt4) : ∀ z : Cnt4, (l.foldl Cnt4.add z).i = z.i + (l.map Cnt4.i).sum := by
 induction l with
 | nil => exact fun z => by simp
 | cons x l ih => exact fun z => by rw [List.foldl_cons, ih, List.map_cons, List.sum_cons]; show z.i + x.i + _ = _; omega
theorem fold_e (l : List Cnt4) : ∀ z : Cnt4, (l.foldl Cnt4.add z).e = z.e + (l.map Cnt4.e).sum := by
 induction l with
 | nil => exact fun z => by simp
 | cons x l ih => exact fun z => by rw [List.foldl_cons, ih, List.map_cons, List.sum_cons]; show z.e + x.e + _ = _; omega
theorem fold_w (l : List Cnt4) : ∀ z : Cnt4, (l.foldl Cnt4.add z).w = z.w + (l.map Cnt4.w).sum := by
 induction l with
 | nil => exact fun z => by simp
 | cons x l ih => exact fun z => by rw [List.foldl_cons, ih, List.map_cons, List.sum_cons]; show z.w + x.w + _ = _; omega
theorem sumK_map (f : Cnt4 → Nat) (n : Nat) (l : List (Chd × Vt)) : ((l.map fun x => cnt4 n x.2).map f).sum = sumK (fun t => f (cnt4 n t)) l := by
 unfold sumK
 rw [List.map_map]
 rfl
theorem cnt_l (n : Nat) (v : Vt) : (cnt4 (n + 1) v).l = sumK (fun t => (cnt4 n t).l) v.ch := by
 show (List.foldl Cnt4.add _ _).l = _
 rw [fold_l, sumK_map]
 exact Nat.zero_add _
theorem cnt_i (n : Nat) (v : Vt) : (cnt4 (n + 1) v).i = 1 + sumK (fun t => (cnt4 n t).i) v.ch := by
 show (List.foldl Cnt4.add _ _).i = _
 rw [fold_i, sumK_map]
theorem cnt_e (n : Nat) (v : Vt) : (cnt4 (n + 1) v).e = sumK (fun t => (cnt4 n t).e) v.ch := by
 show (List.foldl Cnt4.add _ _).e = _
 rw [fold_e, sumK_map]
 exact Nat.zero_add _
theorem cnt_w (n : Nat) (v : Vt) : (cnt4 (n + 1) v).w = v.us.length + sumK (fun t => (cnt4 n t).w) v.ch := by
 show (List.foldl Cnt4.add _ _).w = _
 rw [fold_w, sumK_map]
theorem sumK_mono {f g : Vt → Nat} : ∀ {l : List (Chd × Vt)}, (∀ x ∈ l, f x.2 ≤ g x.2) → sumK f l ≤ sumK g l
 | [], _ => Nat.le_refl _
 | x :: l, h => by
  rw [sumK_cons, sumK_cons]
  exact Nat.add_le_add (h x (by simp)) (sumK_mono fun y hy => h y (List.mem_cons_of_mem _ hy))
theorem sumK_add (f g : Vt → Nat) : ∀ l : List (Chd × Vt), sumK (fun t => f t + g t) l = sumK f l + sumK g l
 | [] => rfl
 | x :: l => by rw [sumK_cons, sumK_cons, sumK_cons, sumK_add f g l]; omega
theorem sumK_mul (c : Nat) (f : Vt → Nat) : ∀ l : List (Chd × Vt), sumK (fun t => c * f t) l = c * sumK f l
 | [] => rfl
 | x :: l => by rw [sumK_cons, sumK_cons, sumK_mul c f l, Nat.mul_add]
theorem sumK_const (c : Nat) : ∀ l : List (Chd × Vt), sumK (fun _ => c) l = c * l.length
 | [] => rfl
 | x :: l => by rw [sumK_cons, sumK_const c l, List.length_cons, Nat.mul_add]; omega
structure Shapes (K : Kx) (n : Nat) (c : Cnt4) : Prop where
 leaf : 1 ≤ c.l
 inner : n ≤ c.i
 none : n = 0 → c.i = 0 ∧ c.l = 1
 ways : c.l + c.i ≤ K.F * c.i + 1
 wait : c.w ≤ K.B * c.i
 ent : c.e ≤ K.L * c.l
theorem shapes_of {K : Kx} : ∀ (n : Nat) (lo hi : List UInt8) (v : Vt), Ok n lo hi v → Gd K n v → Shapes K n (cnt4 n v)
 | 0, _, _, v, _, g => ⟨Nat.le_refl _, Nat.le_refl _, fun _ => ⟨rfl, rfl⟩, by show 1 + 0 ≤ K.F * 0 + 1; omega, Nat.zero_le _, by show v.es.length ≤ K.L * 1; rw [Nat.mul_one]; exact g⟩
 | n + 1, lo, hi, v, ho, g => by
  obtain ⟨g1, g2, g3⟩ := g
  have hk : ∀ x ∈ v.ch, Shapes K n (cnt4 n x.2) := fun x hx => by
   obtain ⟨j, hj, e⟩ := List.getElem_of_mem hx
   obtain ⟨lo', hi', h1, -⟩ := kid_in ho j hj
   rw [e] at h1
   exact shapes_of n lo' hi' x.2 h1 (g3 x hx)
  have hne : v.ch ≠ [] := ho.okk.ne
  obtain ⟨x, hx⟩ := List.exists_mem_of_ne_nil _ hne
  have hl1 := sumK_le (f := fun t => (cnt4 n t).l) hx
  have hi1 := sumK_le (f := fun t => (cnt4 n t).i) hx
  have h1 := hk x hx
  have hw := sumK_mono (f := fun t => (cnt4 n t).l + (cnt4 n t).i) (g := fun t => K.F * (cnt4 n t).i + 1) (fun x hx => (hk x hx).ways)
  rw [sumK_add, sumK_add (fun t => K.F * (cnt4 n t).i) (fun _ => 1), sumK_mul, sumK_const] at hw
  have hb := sumK_mono (f := fun t => (cnt4 n t).w) (g := fun t => K.B * (cnt4 n t).i) (fun x hx => (hk x hx).wait)
  rw [sumK_mul] at hb
  have he := sumK_mono (f := fun t => (cnt4 n t).e) (g := fun t => K.L * (cnt4 n t).l) (fun x hx => (hk x hx).ent)
  rw [sumK_mul] at he
  have ha := h1.leaf
  have hb2 := h1.inner
  refine ⟨?_, ?_, fun q => by omega, ?_, ?_, ?_⟩
  ·rw [cnt_l]; exact Nat.le_trans ha hl1
  ·rw [cnt_i]
   have := Nat.le_trans hb2 hi1
   omega
  ·rw [cnt_l, cnt_i, Nat.mul_add]
   omega
  ·rw [cnt_w, cnt_i, Nat.mul_add]
   omega
  ·rw [cnt_e, cnt_l]; exact he
theorem cnt_pow {K : Kx} : ∀ (n : Nat) (v : Vt), Gd K n v → (cnt4 n v).l ≤ (K.F + 1) ^ n ∧ (cnt4 n v).i ≤ (K.F + 1) ^ n
 | 0, _, _ => ⟨Nat.le_refl _, Nat.zero_le _⟩
 | n + 1, v, g => by
  obtain ⟨g1, g2, g3⟩ := g
  have h1 := sumK_mono (f := fun t => (cnt4 n t).l) (g := fun _ => (K.F + 1) ^ n) (fun x hx => (cnt_pow n x.2 (g3 x hx)).1)
  have h2 := sumK_mono (f := fun t => (cnt4 n t).i) (g := fun _ => (K.F + 1) ^ n) (fun x hx => (cnt_pow n x.2 (g3 x hx)).2)
  rw [sumK_const] at h1 h2
  have h3 : (K.F + 1) ^ n * v.ch.length ≤ (K.F + 1) ^ n * K.F := Nat.mul_le_mul_left _ g1
  have h4 : 1 ≤ (K.F + 1) ^ n := Nat.one_le_pow _ _ (by omega)
  have h5 : (K.F + 1) ^ (n + 1) = (K.F + 1) ^ n * K.F + (K.F + 1) ^ n := by rw [Nat.pow_succ, Nat.mul_add, Nat.mul_one]
  rw [cnt_l, cnt_i, h5]
  omega
def from_ (all : List Upd) (k : List UInt8) : Nat := (all.filter fun u => !bl u.key k).length
theorem filter_two {α : Type} (p q s : α → Bool) : ∀ l : List α, (∀ x ∈ l, (p x = true → s x = true) ∧ (q x = true → s x = true) ∧ ¬ (p x = true ∧ q x = true)) → (l.filter p).length + (l.filter q).length ≤ (l.filter s).length
 | [], _ => Nat.le_refl _
 | x :: l, h => by
  have ih := filter_two p q s l fun y hy => h y (List.mem_cons_of_mem _ hy)
  obtain ⟨h1, h2, h3⟩ := h x (by simp)
  rw [List.filter_cons, List.filter_cons, List.filter_cons]
  by_cases hp : p x = true
  ·rw [if_pos hp, if_neg (fun hq => h3 ⟨hp, hq⟩), if_pos (h1 hp), List.length_cons, List.length_cons]; omega
  ·rw [if_neg hp]
   by_cases hq : q x = true
   ·rw [if_pos hq, if_pos (h2 hq), List.length_cons, List.length_cons]; omega
   ·rw [if_neg hq]
    split
    ·rw [List.length_cons]; omega
    ·exact ih
def hdK (l : List (Chd × Vt)) : List UInt8 := match l with | [] => [] | x :: _ => lw x
theorem scK_len {n : Nat} (IH : ∀ lo hi t above, Ok n lo hi t → Given lo hi above → (enG n t above).length ≤ above.length + ((cnt4 n t).e + (cnt4 n t).w)) {us : List Upd} {lo0 hi : List UInt8} (hr : Rising Upd.key us) (hu : ∀ u ∈ us, Tm u ∧ withinB u.key lo0 hi = true) :
  ∀ (l : List (Chd × Vt)) (lo : List UInt8), OkK (Ok n) hi lo l → (∀ x r, l = x :: r → (lo = lo0 ∧ lw x = []) ∨ lo = lw x) → (scK (enG n) us l).length ≤ from_ us (hdK l) + sumK (fun t => (cnt4 n t).e + (cnt4 n t).w) l
 | [], _, h, _ => absurd h id
 | [x], lo, h, k => by
  have hx := k x [] rfl
  have hG : Given lo hi (cutIn us (lw x) []) := Given.cut hr hu fun q a b => by
   rcases hx with ⟨rfl, -⟩ | rfl
   ·exact a
   ·exact withinB_iff.2 ⟨(withinB_iff.1 b).1, (withinB_iff.1 a).2⟩
  have h1 := IH lo hi x.2 _ (OkK.one.1 h) hG
  have e : scK (enG n) us [x] = enG n x.2 (cutIn us (lw x) []) := by rw [scK_cons]; show _ ++ [] = _; rw [List.append_nil]; rfl
  rw [e, sumK_cons, sumK_nil]
  have h2 : (cutIn us (lw x) []).length ≤ from_ us (hdK [x]) := by
   rw [(cut_filter hr (lw x) []).1]
   refine Nat.le_of_eq ?_
   unfold from_
   congr 1
   refine List.filter_congr fun u _ => ?_
   show withinB u.key (lw x) [] = !bl u.key (lw x)
   unfold withinB
   simp
  omega
 | x :: y :: r, lo, h, k => by
  have hx := k x (y :: r) rfl
  obtain ⟨g1, g2, g3, g4⟩ := OkK.two.1 h
  have hG : Given lo (lw y) (cutIn us (lw x) (lw y)) := Given.cut hr hu fun q a b => by
   rcases hx with ⟨rfl, -⟩ | rfl
   ·exact withinB_iff.2 ⟨(withinB_iff.1 a).1, (withinB_iff.1 b).2⟩
   ·exact b
  have h1 := IH lo (lw y) x.2 _ g3 hG
  have h3 := scK_len IH hr hu (y :: r) (lw y) g4 (fun x r e => by
   simp only [List.cons.injEq] at e
   obtain ⟨rfl, -⟩ := e
   exact Or.inr rfl)
  have e : scK (enG n) us (x :: y :: r) = enG n x.2 (cutIn us (lw x) (lw y)) ++ scK (enG n) us (y :: r) := scK_cons _ _ _ _
  have hyn : lw y ≠ [] := bl_ne_nil g1
  have hxy : bl (lw x) (lw y) = true := by
   rcases hx with ⟨-, q⟩ | q
   ·rw [q]; exact bl_pos hyn
   ·rw [← q]; exact g1
  have h2 : (cutIn us (lw x) (lw y)).length + from_ us (lw y) ≤ from_ us (lw x) := by
   rw [(cut_filter hr (lw x) (lw y)).1]
   unfold from_
   refine filter_two _ _ _ us fun u _ => ⟨fun a => ?_, fun a => ?_, fun ⟨a, b⟩ => ?_⟩
   ·rw [(withinB_iff.1 a).1]; rfl
   ·have : bl u.key (lw y) = false := by simpa using a
    rw [bl_down this hxy]; rfl
   ·have b' : bl u.key (lw y) = false := by simpa using b
    rcases (withinB_iff.1 a).2 with q | q
    ·exact hyn q
    ·rw [b'] at q; cases q
  rw [e, List.length_append, sumK_cons]
  have h4 : from_ us (hdK (y :: r)) = from_ us (lw y) := rfl
  have h5 : from_ us (hdK (x :: y :: r)) = from_ us (lw x) := rfl
  omega
theorem enG_len : ∀ (n : Nat) (lo hi : List UInt8) (t : Vt) (above : List Upd), Ok n lo hi t → Given lo hi above → (enG n t above).length ≤ above.length + ((cnt4 n t).e + (cnt4 n t).w)
 | 0, lo, hi, t, above, ho, hg => by
  have h1 := (onAll_ok t.es ho.rise0 ho.fine above).2.2
  show (onAll t.es above).length ≤ above.length + (t.es.length + 0)
  omega
 | n + 1, lo, hi, t, above, ho, hg => by
  have ho2 := gv_ok ho hg
  have h1 := scK_len (fun lo hi t above => enG_len n lo hi t above) ho2.usr ho2.2.2.1 t.ch lo ho2.okk (fun x r e => Or.inl ⟨rfl, ho.2.2.2.2.1 x (by rw [e]; rfl)⟩)
  have h2 : (enG (n + 1) t above).length = (scK (enG n) (above.foldl withL t.us) t.ch).length := rfl
  have h3 : from_ (above.foldl withL t.us) (hdK t.ch) ≤ (above.foldl withL t.us).length := List.length_filter_le _ _
  have h4 := fold_len above t.us ho.usr
  have h5 : sumK (fun t => (cnt4 n t).e + (cnt4 n t).w) t.ch = sumK (fun t => (cnt4 n t).e) t.ch + sumK (fun t => (cnt4 n t).w) t.ch := sumK_add _ _ _
  have h6 : (gv (n + 1) t above).us = above.foldl withL t.us := rfl
  rw [h6] at h1
  rw [h2, cnt_e, cnt_w]
  omega
theorem en_len {n : Nat} {v : Vt} (ho : Ok n [] [] v) : (en n v).length ≤ (cnt4 n v).e + (cnt4 n v).w := by
 have := enG_len n [] [] v [] ho ⟨List.Pairwise.nil, fun u hu => by simp at hu⟩
 have e : enG n v [] = en n v := by unfold enG; congr 1; cases v; cases n <;> rfl
 rw [e] at this
 simpa using this
open Go.RowKit
attribute [local go_sem ↓] Go.wp_at_zero Go.wp_at_succ
theorem shape_nil (w : World) : Calls Tryz.prog 29 #[.pointer none] w fun e w' => e = .returned (.tuple #[.agg #[.int .i64 0, .int .i64 0, .int .i64 0, .int .i64 0], .int .i64 1]) ∧ Below w.heap.size w w' := by
 go_enter Tryz.func29, Tryz.ntmps29
 go_wp2_with fail
 go_returns
 exact ⟨rfl, by go_grown⟩
abbrev c4v (c : Cnt4) : Value := .agg #[.int .i64 c.l, .int .i64 c.i, .int .i64 c.e, .int .i64 c.w]
theorem shape_tree {X : Kx} {n : Nat} {v : Vt} {T : Tx} (w : World) (t : TrOk X n w v T) (ha : addrs n v = []) (hb : Small4 (cnt4 n v)) :
  Calls Tryz.prog 29 #[.pointer (some ⟨X.tb, 0, none⟩)] w fun e w' => e = .returned (.tuple #[c4v (cnt4 n v), .int .i64 0]) ∧ Below w.heap.size w w' := by
 have HT := Lib.hid t.c.tr
 have HO := Lib.hid (And.intro t (And.intro ha hb))
 have hn8 := t.n8
 obtain ⟨tb, htb⟩ : ∃ tb, tb = X.tb := ⟨_, rfl⟩
 rw [← htb] at HT
 have HTB := Lib.hid htb
 obtain ⟨C, hC⟩ : ∃ C, C = cnt4 n v := ⟨_, rfl⟩
 have HC := Lib.hid hC
 clear t ha hb
 rw [← htb, ← hC]
 clear htb hC
 go_enter Tryz.func29, Tryz.ntmps29
 go_upto_region 4 with (fail)
 obtain ⟨W, hW⟩ : ∃ W, W = (w.alloc (.cells #[.int .i64 0, .int .i64 0, .int .i64 0, .int .i64 0] 77)).alloc (.cells #[.int .i64 0, .int .i64 0, .int .i64 0, .int .i64 0] 77) := ⟨_, rfl⟩
 obtain ⟨rb, hrb⟩ : ∃ rb, rb = w.heap.size := ⟨_, rfl⟩
 obtain ⟨sb, hsb⟩ : ∃ sb, sb = w.heap.size + 1 := ⟨_, rfl⟩
 have hX : Below w.heap.size w W := by rw [hW]; go_grown
 have hz1 : (w.alloc (.cells #[.int .i64 0, .int .i64 0, .int .i64 0, .int .i64 0] 77)).heap.size = w.heap.size + 1 := World.size_alloc _ _
 have HR1 := Lib.hid (show RwAt W 77 sb [.int .i64 0, .int .i64 0, .int .i64 0, .int .i64 0] by
  rw [hW, hsb, ← hz1]
  exact ⟨RowIs.new _ _ [.int .i64 0, .int .i64 0, .int .i64 0, .int .i64 0]⟩)
 have HR0 := Lib.hid (show RwAt W 77 rb [.int .i64 0, .int .i64 0, .int .i64 0, .int .i64 0] by
  rw [hW, hrb]
  exact ⟨(RowIs.new w _ [.int .i64 0, .int .i64 0, .int .i64 0, .int .i64 0]).on (Below.refl _ _ |>.alloc (Nat.le_refl _) _)⟩)
 try simp only [hz1]
 rw [← hW, ← hsb, ← hrb]
 have hrs : rb ≠ sb := by omega
 have hrw : w.heap.size ≤ rb ∧ w.heap.size ≤ sb := by omega
 clear hW hrb hsb hz1
 have HT1 := Lib.hid (HT.out.on hX)
 have c4 := HT1.out.c4
 have c5 := HT1.out.c5
 have hd : Below W.heap.size W W.drew := below_drew' (Below.refl _ _)
 have hXd := hX.trans (hd.mono hX.size)
 have HVL := Lib.hid (show Calls Tryz.prog 56 #[.pointer (some ⟨tb, 0, none⟩), .pointer (some ⟨v.b, 0, none⟩), .int .i64 ((n + 1 : Nat) : Int), .pointer (some ⟨sb, 0, none⟩)] W.drew (fun e w' => ShOut W.drew sb ⟨0, 0, 0, 0⟩ n v e w') from by
  obtain ⟨t, ha, hb⟩ := HO.out
  have e0 : (⟨0, 0, 0, 0⟩ : Cnt4).add (cnt4 n v) = cnt4 n v := by simp [Cnt4.add]
  exact shape_any n tb v sb ⟨0, 0, 0, 0⟩ W.drew _ (t.m.on hXd) ha (HR1.out.on hd) (by rw [e0]; exact hb) (Nat.le_trans (Nat.le_trans (Nat.le_add_right _ _) t.pot) (by omega)) (by omega) (by omega))
 go_region_law (first | (go_simp; go_at_call 56; refine HVL.out.mono ?_; rintro e w4 ⟨rfl, hk4, hs4⟩))
 all_goals
  have e0 : (⟨0, 0, 0, 0⟩ : Cnt4).add (cnt4 n v) = cnt4 n v := by simp [Cnt4.add]
  rw [e0] at hs4
  have HS4 := Lib.hid hs4
  have hr4 := (HR0.out.on hd).row
  have hr4' : RowIs w4 77 rb [.int .i64 0, .int .i64 0, .int .i64 0, .int .i64 0] := hk4.row hr4 (fun q => hrs q)
  have HR4 := Lib.hid hr4'
  have hB4 : Below w.heap.size w w4 := hXd.trans (hk4.below hXd.size (fun x hx => by rw [show x = sb from hx]; exact hrw.2))
  have HB4 := Lib.hid hB4
  rw [← HC.out] at HS4
  have q0 : w4.cell? ⟨sb, 0, none⟩ = some (.int .i64 C.l) := HS4.out.cell 0
  have q1 : w4.cell? ⟨sb, 1, none⟩ = some (.int .i64 C.i) := HS4.out.cell 1
  have q2 : w4.cell? ⟨sb, 2, none⟩ = some (.int .i64 C.e) := HS4.out.cell 2
  have q3 : w4.cell? ⟨sb, 3, none⟩ = some (.int .i64 C.w) := HS4.out.cell 3
  have y0 : w4.cell? ⟨rb, 0, none⟩ = some (.int .i64 0) := HR4.out.cell 0
  have y1 : w4.cell? ⟨rb, 1, none⟩ = some (.int .i64 0) := HR4.out.cell 1
  have y2 : w4.cell? ⟨rb, 2, none⟩ = some (.int .i64 0) := HR4.out.cell 2
  have y3 : w4.cell? ⟨rb, 3, none⟩ = some (.int .i64 0) := HR4.out.cell 3
  have f0 := HR4.out.frozen 0
  have f1 := HR4.out.frozen 1
  have f2 := HR4.out.frozen 2
  have f3 := HR4.out.frozen 3
  clear hs4 hk4 hr4 hr4' hB4 e0 hd hXd hX c4 c5
  go_wp2_with fail
  obtain ⟨W5, hW5⟩ : ∃ W5, W5 = (((w4.setCell ⟨rb, 0, none⟩ (.int .i64 C.l)).setCell ⟨rb, 1, none⟩ (.int .i64 C.i)).setCell ⟨rb, 2, none⟩ (.int .i64 C.e)).setCell ⟨rb, 3, none⟩ (.int .i64 C.w) := ⟨_, rfl⟩
  have HR5 := Lib.hid (show RowIs W5 77 rb [.int .i64 C.l, .int .i64 C.i, .int .i64 C.e, .int .i64 C.w] by rw [hW5]; exact (((HR4.out.put 0 _).put 1 _).put 2 _).put 3 _)
  have HB5 := Lib.hid (show Below w.heap.size w W5 by rw [hW5]; exact (((HB4.out.setCell hrw.1 _).setCell hrw.1 _).setCell hrw.1 _).setCell hrw.1 _)
  rw [← hW5]
  clear hW5 q0 q1 q2 q3 y0 y1 y2 y3 f0 f1 f2 f3
  have y0 : W5.cell? ⟨rb, 0, none⟩ = some (.int .i64 C.l) := HR5.out.cell 0
  have y1 : W5.cell? ⟨rb, 1, none⟩ = some (.int .i64 C.i) := HR5.out.cell 1
  have y2 : W5.cell? ⟨rb, 2, none⟩ = some (.int .i64 C.e) := HR5.out.cell 2
  have y3 : W5.cell? ⟨rb, 3, none⟩ = some (.int .i64 C.w) := HR5.out.cell 3
  exact bodyPost_ret (v := .tuple #[c4v C, .int .i64 0]) (by simp [results, Tryz.results29, go_sem, y0, y1, y2, y3]) rfl ⟨rfl, HB5.out⟩
open Go.RowKit
attribute [local go_sem ↓] Go.wp_at_zero Go.wp_at_succ
def LInv (K : Kx) (w : World) (w0 : World) (j : Nat) : Prop := ∃ n v T, Inv K n w v T w0 j ∧ addrs n v = []
theorem LInv.on {K : Kx} {w w1 w0 : World} {j : Nat} (h : LInv K w w0 j) (hb : Below w.heap.size w w1) : LInv K w1 w0 j := by
 obtain ⟨n, v, T, h1, h2⟩ := h
 exact ⟨n, v, T, h1.on hb, h2⟩
theorem LInv.below {K : Kx} {w w0 : World} {j : Nat} (h : LInv K w w0 j) : Below w0.heap.size w0 w := by
 obtain ⟨n, v, T, h1, h2⟩ := h
 exact h1.st.b
theorem LInv.walk {K : Kx} {w w0 : World} {j : Nat} {u : Upd} (h : LInv K w w0 j) (hP : PlanOk K) (hB : 1 ≤ K.B / K.F) (hj : j ≤ 200) (hu : Tm u) :
  Calls Tryz.prog 13 #[.pointer (some ⟨K.tb, 0, none⟩), .agg #[.int .u8 u.kind, .string (S u.key), .string (S u.val), .int .u64 u.delta]] w fun e w' => e = .returned (.int .i64 0) ∧ LInv K w' w0 (j + 1) := by
 obtain ⟨n, v, T, h1, h2⟩ := h
 refine (h1.walk hP hB hj hu).mono ?_
 rintro e w' ⟨rfl, n1, v1, T1, g, l, a, h3⟩
 have h4 := a.addrs
 rw [h2] at h4
 exact ⟨rfl, n1, v1, T1, h3, (List.append_eq_nil_iff.1 h4.eq_nil).1⟩
structure ShLaw (c : Cnt4) (n : Nat) (len : Nat) : Prop where
 leaf : 1 ≤ c.l
 none : n = 0 → c.i = 0 ∧ c.l = 1
 inner : 1 ≤ n → 1 ≤ c.i
 ways : c.l + c.i ≤ 3 * c.i + 1
 wait : c.w ≤ 4 * c.i
 ent : c.e ≤ 3 * c.l
 len : len ≤ c.e + c.w
 l1 : c.l ≤ 65536
 i1 : c.i ≤ 65536
theorem LInv.shape {K : Kx} {w w0 : World} {j : Nat} (h : LInv K w w0 j) (hF : K.F = 3) (hB : K.B = 4) (hL : K.L = 3) (hN : Near K.f) :
  ∃ c n len, ShLaw c n len ∧ n ≤ 8 ∧ len ≤ 1000 ∧
   Calls Tryz.prog 29 #[.pointer (some ⟨K.tb, 0, none⟩)] w (fun e w' => e = .returned (.tuple #[c4v c, .int .i64 0]) ∧ Below w.heap.size w w') ∧
   ∀ w1, Below w.heap.size w w1 → Calls Tryz.prog 17 #[.pointer (some ⟨K.tb, 0, none⟩), .string ⟨#[]⟩, .string ⟨#[]⟩, .int .i64 1000] w1 (fun e w' => (∃ oa oc, e = .returned (.tuple #[.slice oa len oc, .int .i64 0])) ∧ (∀ w2, Below w'.heap.size w' w2 → Calls Tryz.prog 14 #[.pointer (some ⟨K.tb, 0, none⟩)] w2 (fun e w3 => e = .returned (.int .i64 ((n : Int) + 1)) ∧ Below w2.heap.size w2 w3)) ∧ LInv K w' w0 j ∧ Keep (fun x => x = K.sb) w1 w') := by
 obtain ⟨n, v, T, h1, h2⟩ := h
 have hn := h1.st.ok.n8
 have hs := shapes_of n [] [] v h1.st.ok.ok h1.gd
 have hp := cnt_pow n v h1.gd
 have h8 : (K.F + 1) ^ n ≤ 65536 := by
  rw [hF]
  exact Nat.le_trans (Nat.pow_le_pow_right (by omega) hn) (by decide)
 have hlen := en_len h1.st.ok.ok
 have hacc := accP_len 1000 [] [] [] (en n v)
 have hmost := accP_most 1000 [] [] [] (en n v) (by omega) (by simp)
 have hw := hs.wait
 have he := hs.ent
 have hwy := hs.ways
 rw [hB] at hw
 rw [hL] at he
 rw [hF] at hwy
 have hsm : Small4 (cnt4 n v) := ⟨by omega, by omega, by omega, by omega⟩
 refine ⟨cnt4 n v, n, (accP 1000 [] [] [] (en n v)).length, ⟨hs.leaf, hs.none, fun q => Nat.le_trans q hs.inner, hwy, hw, he, by simp only [List.length_nil] at hacc; omega, by omega, by omega⟩, hn, hmost, shape_tree w h1.st.ok h2 hsm, fun w1 hb1 => ?_⟩
 have h3 := h1.on hb1
 have h4 : Calls Tryz.prog 17 #[.pointer (some ⟨K.tb, 0, none⟩), .string (S []), .string (S []), .int .i64 1000] w1 fun e w' => ScanOut K n w1 v T [] [] 1000 e w' := scan_any [] [] 1000 w1 h3.st.ok hN (by omega)
 refine Calls.mono h4 ?_
 rintro e w' ⟨wr', k1, k2, k3, ⟨-, k4⟩ | ⟨oa, oc, rfl, -, -⟩⟩
 ·rw [h1.wr] at k4
  exact absurd k4 (Nat.lt_irrefl 0)
 ·have hw0 : wr' = T.wr := by have := h1.wr; omega
  subst hw0
  refine ⟨⟨oa, oc, rfl⟩, fun w2 hb2 => ?_, ⟨n, v, { T with wr := T.wr }, ⟨h3.st.load k2 k3, h1.pot, h1.fl, h1.gd, h1.wr⟩, h2⟩, k3⟩
  refine (height_any w2 (k2.c.on hb2).tr).mono ?_
  rintro e w3 ⟨rfl, hb⟩
  exact ⟨by rw [Int.natCast_add]; rfl, hb⟩
open Go.RowKit
attribute [local go_sem ↓] Go.wp_at_zero Go.wp_at_succ
theorem treeShapes_walk (v : Value) (l : List ActQ) (w : World) (hl : ArgActs w v l) :
  Calls Tryz.prog 5 #[v] w fun e w' => e = .returned (.bool true) ∧ Below w.heap.size w w' := by
 obtain ⟨⟨ao, c, rfl, hsl, hc1, hc2⟩, hok⟩ := hl
 have hmm := @run_makeMap Tryz.prog
 have hmin := fun ts t a b w => run_tmin (P := Tryz.prog) ts t a b w
 have hmax := fun ts t a b w => run_bmax (P := Tryz.prog) ts t a b w
 have hm1 : tmin (l.length : Int) 120 = ((min l.length 120 : Nat) : Int) := tmin_nat l.length 120
 obtain ⟨m, hm⟩ : ∃ m, m = min l.length 120 := ⟨_, rfl⟩
 rw [← hm] at hm1
 have hcut := fun w => cut_Q ao l.length c m (by omega) hc1 w
 obtain ⟨L, hL⟩ : ∃ L, L = l.take m := ⟨_, rfl⟩
 have hLm : L.length = m := by rw [hL, List.length_take]; omega
 have HL := Lib.hid (show SlAt ActQ.cells 4 w ao L by rw [hL]; exact takeQ hsl m)
 have HO := Lib.hid (show ∀ x ∈ L, x.Ok by rw [hL]; exact fun u hu => hok u (List.mem_of_mem_take hu))
 have hm120 : m ≤ 120 := by omega
 clear hok hsl hL
 have HLm := Lib.hid hLm
 clear hLm hm
 go_enter Tryz.func5, Tryz.ntmps5
 go_upto_region 2 with (fail)
 obtain ⟨W, hW⟩ : ∃ W, W = (w.alloc (.map #[] 0)).alloc (.cells #[.map (some w.heap.size), .int .u64 0, .int .i64 0] 27) := ⟨_, rfl⟩
 have hb0 : Below w.heap.size w W := by rw [hW]; exact ((Below.refl _ w).alloc (Nat.le_refl _) _).alloc (by simp) _
 have hS : ShelfAt W (w.heap.size + 1) w.heap.size 0 0 (fun _ => none) 0 0 := by
  rw [hW]
  exact ⟨RowIs.new' _ _ _ _ (by simp), (ShMap.made w).on ((Below.refl _ _).alloc (Nat.le_refl _) _)⟩
 rw [← hW]
 clear hW
 obtain ⟨sb, hsb⟩ : ∃ sb, sb = w.heap.size + 1 := ⟨_, rfl⟩
 obtain ⟨mb, hmb⟩ : ∃ mb, mb = w.heap.size := ⟨_, rfl⟩
 rw [← hsb] at hS ⊢
 rw [← hmb] at hS
 have hsb' : w.heap.size ≤ sb := by omega
 clear hsb hmb
 replace hS := Lib.hid hS
 go_wp2_with fail
 go_wp2_with fail
 refine (thread (small_any W) W.heap.size W (Below.refl _ _) (Nat.le_refl _)).mono ?_
 rintro e w1 ⟨rfl, hX_w1, -, -, -, hz_w1⟩
 replace hS := Lib.hid (hS.out.kept hX_w1 (Nat.le_refl _))
 replace hb0 := hb0.trans (hX_w1.mono hb0.size)
 clear hX_w1
 go_wp2_with fail
 refine (new_any 3 4 3 (.func 11) #[.pointer (some ⟨sb, 0, none⟩)] #[] w1).mono ?_
 rintro e w2 ⟨rfl, ht2, hv2, hX2⟩
 obtain ⟨tb, htb⟩ : ∃ tb, tb = w1.heap.size + 1 + 1 := ⟨_, rfl⟩
 obtain ⟨b, hbb⟩ : ∃ b, b = w1.heap.size + 1 := ⟨_, rfl⟩
 rw [← htb] at ht2 ⊢
 rw [← hbb] at ht2 hv2
 have htb' : w1.heap.size ≤ tb := by omega
 have hbb' : w1.heap.size ≤ b := by omega
 clear htb hbb
 have hbx := hb0.size
 have HI2 := Lib.hid (show Inv (newK tb sb mb 3 4 3) 0 w2 (newV b) newT w 0 from Inv.new ht2 hv2 (hS.out.on hX2) (hb0.trans (hX2.mono hb0.size)) (by omega) (by omega) (by omega))
 obtain ⟨K, hK⟩ : ∃ K, K = newK tb sb mb 3 4 3 := ⟨_, rfl⟩
 have HKK := Lib.hid (show K.tb = tb ∧ K.F = 3 ∧ K.B = 4 ∧ K.L = 3 ∧ PlanOk K by rw [hK]; exact ⟨rfl, rfl, rfl, rfl, plan_new (by omega) (by omega) (by omega) (by omega) (by omega) (by omega)⟩)
 have HV2 := Lib.hid (show LInv K w2 w 0 from ⟨0, newV b, newT, by rw [hK]; exact HI2.out, rfl⟩)
 clear ht2 hv2 hX2 hS hb0 hK HI2 hsb' htb' hbb' hbx
 go_upto_region 3 with (fail)
 go_wp2_with fail
 refine (wakes21 w2).mono ?_
 rintro e w3 ⟨rfl, hX3⟩
 have HV3 := Lib.hid (HV2.out.on hX3)
 clear hX3 HV2
 go_wp2_with fail
 go_loopw [35] (fun i wr => ∃ j : Nat, i = .int .i64 j ∧ j ≤ m ∧ Hid (LInv K wr w j)) (fun i _ => m - (intOf i).toNat)
 case atStart => exact ⟨0, rfl, Nat.zero_le _, HV3⟩
 case round =>
  obtain ⟨j, rfl, hj, HJ⟩ := hrel
  have hj0 : (0 : Int) ≤ (j : Int) := Int.natCast_nonneg _
  by_cases hjm : j < m
  ·have hj1 : (j : Int) < (m : Int) := by omega
   have hjl : j < L.length := by rw [HLm.out]; exact hjm
   obtain ⟨b, off, ea, hb, t0, t1, t2, t3⟩ := SlAt.cellsQ HL.out j hjl
   subst ea
   have hB := HJ.out.below
   have q0 := (cell_below hB hb _).trans t0
   have q1 := (cell_below hB hb _).trans t1
   have q2 := (cell_below hB hb _).trans t2
   have q3 := (cell_below hB hb _).trans t3
   have hxo := HO.out _ (List.getElem_mem hjl)
   clear t0 t1 t2 t3 hB
   generalize L[j] = x at *
   go_upto_region 8 with (fail)
   obtain ⟨W4, hW4⟩ : ∃ W4, W4 = wr.alloc (.cells #[.int .i64 x.dv, .int .i64 x.kv, .string (S x.val), .int .u64 x.dl] 51) := ⟨_, rfl⟩
   have hX4 : Below wr.heap.size wr W4 := by rw [hW4]; go_grown
   have z0 : W4.cell? ⟨wr.heap.size, 0, none⟩ = some (.int .i64 x.dv) := by rw [hW4, World.cell?_alloc_at _ _ _ _ rfl]; rfl
   have z1 : W4.cell? ⟨wr.heap.size, 1, none⟩ = some (.int .i64 x.kv) := by rw [hW4, World.cell?_alloc_at _ _ _ _ rfl]; rfl
   have z2 : W4.cell? ⟨wr.heap.size, 2, none⟩ = some (.string (S x.val)) := by rw [hW4, World.cell?_alloc_at _ _ _ _ rfl]; rfl
   have z3 : W4.cell? ⟨wr.heap.size, 3, none⟩ = some (.int .u64 x.dl) := by rw [hW4, World.cell?_alloc_at _ _ _ _ rfl]; rfl
   have HJ4 := Lib.hid (HJ.out.on hX4)
   rw [← hW4]
   clear hW4 hX4 q0 q1 q2 q3 HJ hb
   go_wp2_with fail
   refine (update21 x.dv x.kv x.val x.dl W4 hxo.dv hxo.kv hxo.val).mono ?_
   rintro e w5 ⟨rfl, hX5⟩
   have HU := Lib.hid (updL_tm x.dv x.kv x.val x.dl hxo.dl)
   have HJ5 := Lib.hid (HJ4.out.on hX5)
   generalize updL x.dv x.kv x.val x.dl = u at *
   clear hX5 HJ4 z0 z1 z2 z3 hxo
   go_upto_region 9 with (fail)
   obtain ⟨W6, hW6⟩ : ∃ W6, W6 = (w5.alloc (.cells #[.int .u8 u.kind, .string (S u.key), .string (S u.val), .int .u64 u.delta] 39)).alloc (.cells #[.int .u8 u.kind, .string (S u.key), .string (S u.val), .int .u64 u.delta] 62) := ⟨_, rfl⟩
   have hX6 : Below w5.heap.size w5 W6 := by rw [hW6]; go_grown
   have HR6 := Lib.hid (show RowIs W6 39 w5.heap.size [.int .u8 u.kind, .string (S u.key), .string (S u.val), .int .u64 u.delta] by
    rw [hW6]
    exact (RowIs.new w5 _ [.int .u8 u.kind, .string (S u.key), .string (S u.val), .int .u64 u.delta]).on ((Below.refl _ _).alloc (Nat.le_refl _) _))
   have HJ6 := Lib.hid (HJ5.out.on hX6)
   rw [← hW6]
   clear hW6 hX6 HJ5
   have y0 : W6.cell? ⟨w5.heap.size, 0, none⟩ = some (.int .u8 u.kind) := HR6.out.cell 0
   have y1 : W6.cell? ⟨w5.heap.size, 1, none⟩ = some (.string (S u.key)) := HR6.out.cell 1
   have y2 : W6.cell? ⟨w5.heap.size, 2, none⟩ = some (.string (S u.val)) := HR6.out.cell 2
   have y3 : W6.cell? ⟨w5.heap.size, 3, none⟩ = some (.int .u64 u.delta) := HR6.out.cell 3
   have HAP := Lib.hid (show Calls Tryz.prog 13 #[.pointer (some ⟨tb, 0, none⟩), .agg #[.int .u8 u.kind, .string (S u.key), .string (S u.val), .int .u64 u.delta]] W6 (fun e w' => e = .returned (.int .i64 0) ∧ LInv K w' w (j + 1)) from by
    have := HJ6.out.walk (u := u) HKK.out.2.2.2.2 (by rw [HKK.out.2.1, HKK.out.2.2.1]; decide) (by omega) HU.out
    rw [HKK.out.1] at this
    exact this)
   go_wp2_with fail
   refine HAP.out.mono ?_
   rintro e w7 ⟨rfl, hj7⟩
   have HJ7 := Lib.hid hj7
   clear hj7 y0 y1 y2 y3 HR6 HJ6 HAP
   go_upto_region 11 with (fail)
   obtain ⟨C, n, len, hsh, hn8, hlen, hca, hcb⟩ := HJ7.out.shape HKK.out.2.1 HKK.out.2.2.1 HKK.out.2.2.2.1 HKK.out.2.2.2.2.near
   rw [HKK.out.1] at hca hcb
   have HCA := Lib.hid hca
   have HCB := Lib.hid hcb
   have HSH := Lib.hid hsh
   clear hca hcb hsh
   go_wp2_with fail
   refine HCA.out.mono ?_
   rintro e w8 ⟨rfl, hX8⟩
   have HX8 := Lib.hid hX8
   clear hX8
   go_upto_region 12 with (fail)
   obtain ⟨W9, hW9⟩ : ∃ W9, W9 = w8.alloc (.cells #[.int .i64 C.l, .int .i64 C.i, .int .i64 C.e, .int .i64 C.w] 77) := ⟨_, rfl⟩
   have hX9 : Below w8.heap.size w8 W9 := by rw [hW9]; go_grown
   have HR9 := Lib.hid (show RowIs W9 77 w8.heap.size [.int .i64 C.l, .int .i64 C.i, .int .i64 C.e, .int .i64 C.w] by rw [hW9]; exact RowIs.new w8 _ [.int .i64 C.l, .int .i64 C.i, .int .i64 C.e, .int .i64 C.w])
   have hX79 := HX8.out.trans (hX9.mono HX8.out.size)
   obtain ⟨sh, hsh⟩ : ∃ sh, sh = w8.heap.size := ⟨_, rfl⟩
   rw [← hsh] at HR9
   rw [← hW9, ← hsh]
   have hksb : ¬ sh = K.sb := fun e => by
    have h1 := HJ7.out
    obtain ⟨n', v', T', h2, -⟩ := h1
    have h3 := h2.st.ok.c.sh.row.lt
    have h4 := HX8.out.size
    omega
   have HKS := Lib.hid hksb
   have HCC := Lib.hid (HCB.out W9 hX79)
   clear hW9 hX9 hX79 hsh hksb
   go_wp2_with fail
   refine HCC.out.mono ?_
   rintro e w10 ⟨⟨oa, oc, rfl⟩, hhe, hj10, hk10⟩
   have HR10 := Lib.hid (hk10.row HR9.out (fun e => HKS.out e))
   have HJ10 := Lib.hid hj10
   have HHE := Lib.hid hhe
   obtain ⟨g1, g2, g3, g4, g5, g6, g7, g8, g9⟩ := HSH.out
   obtain ⟨cl, ci, ce, cw⟩ := C
   simp only at g1 g2 g3 g4 g5 g6 g7 g8 g9 HR10 ⊢
   have s0 : w10.cell? ⟨sh, 0, none⟩ = some (.int .i64 cl) := HR10.out.cell 0
   have s1 : w10.cell? ⟨sh, 1, none⟩ = some (.int .i64 ci) := HR10.out.cell 1
   have s2 : w10.cell? ⟨sh, 2, none⟩ = some (.int .i64 ce) := HR10.out.cell 2
   have s3 : w10.cell? ⟨sh, 3, none⟩ = some (.int .i64 cw) := HR10.out.cell 3
   clear hhe hj10 hk10 HR9 HCC HKS HX8 HCB HCA
   go_upto_region 13 with (fail)
   have hbm : bmax 1 (ci : Int) = 1 ∨ bmax 1 (ci : Int) = ci := by unfold bmax; split <;> omega
   have hbg : 1 ≤ bmax 1 (ci : Int) ∧ (ci : Int) ≤ bmax 1 (ci : Int) := by unfold bmax; split <;> omega
   have w83 : IntKind.i64.wrap ((cl : Int) + ci) = (cl : Int) + ci := IntWalk.i64_in _ (by omega)
   have w84 : IntKind.i64.wrap ((cl : Int) + ci - 1) = (cl : Int) + ci - 1 := IntWalk.i64_in _ (by omega)
   have w88 : IntKind.i64.wrap (3 * bmax 1 (ci : Int)) = 3 * bmax 1 (ci : Int) := IntWalk.i64_in _ (by omega)
   have w111 : IntKind.i64.wrap (4 * (ci : Int)) = 4 * (ci : Int) := IntWalk.i64_in _ (by omega)
   have w119 : IntKind.i64.wrap (3 * (cl : Int)) = 3 * (cl : Int) := IntWalk.i64_in _ (by omega)
   have w129 : IntKind.i64.wrap ((ce : Int) + cw) = (ce : Int) + cw := IntWalk.i64_in _ (by omega)
   have d67 : decide ((cl : Int) < 1) = false := by simp; omega
   have d89 : decide (3 * bmax 1 (ci : Int) < (cl : Int) + ci - 1) = false := by simp; omega
   have d112 : decide (4 * (ci : Int) < (cw : Int)) = false := by simp; omega
   have d120 : decide (3 * (cl : Int) < (ce : Int)) = false := by simp; omega
   have d130 : decide ((ce : Int) + cw < (len : Int)) = false := by simp; omega
   clear hbm hbg
   rcases Nat.eq_zero_or_pos n with hn0 | hn0
   ·obtain ⟨z1, z2⟩ := g2 hn0
    have d72 : ((ci : Int) == 0) = true := by simp; omega
    have d75 : (((n : Int) + 1) == 1) = true := by simp; omega
    have d103 : ((cl : Int) != 1) = false := by simp; omega
    clear z1 z2 g1 g2 g3 g4 g5 g6 g7 g8 g9 hn0
    refine WQ.region (C := fun w' => Below w10.heap.size w10 w') (by kernel_rfl) (by kernel_rfl) (below_drew' (Below.refl _ _)) ?_
    refine WV (by rfl) (.int .i64 0) (fun w' hw' => ?_) ?_
    ·have hq' := hw'
     go_simp
    try simp only [Act.put, WA, WB, WC]
    refine WV (by rfl) (.bool false) (fun w' hw' => ?_) ?_
    ·have hq' := hw'
     go_simp
    try simp only [Act.put, WA, WB, WC]
    refine WV (by rfl) (.bool false) (fun w' hw' => ?_) ?_
    ·have hq' := hw'
     go_simp
    try simp only [Act.put, WA, WB, WC]
    refine WV (by rfl) (.int .i64 0) (fun w' hw' => ?_) ?_
    ·have hq' := hw'
     go_simp
    try simp only [Act.put, WA, WB, WC]
    refine WV (by rfl) (.bool false) (fun w' hw' => ?_) ?_
    ·have hq' := hw'
     go_simp
    try simp only [Act.put, WA, WB, WC]
    refine WV (by rfl) (.bool false) (fun w' hw' => ?_) ?_
    ·have hq' := hw'
     go_simp
    try simp only [Act.put, WA, WB, WC]
    refine WV (by rfl) (.bool false) (fun w' hw' => ?_) ?_
    ·have hq' := hw'
     go_simp
    try simp only [Act.put, WA, WB, WC]
    refine WV (by rfl) (.pointer (some ⟨sh, 0, none⟩)) (fun w' hw' => ?_) ?_
    ·have hq' := hw'
     go_simp
    try simp only [Act.put, WA, WB, WC]
    refine WV (by rfl) (.int .i64 cl) (fun w' hw' => ?_) ?_
    ·have hq' := hw'
     have z0 := kept_cell hw' s0; have z1 := kept_cell hw' s1; have z2 := kept_cell hw' s2; have z3 := kept_cell hw' s3; go_simp
    try simp only [Act.put, WA, WB, WC]
    refine WV (by rfl) (.bool false) (fun w' hw' => ?_) ?_
    ·have hq' := hw'
     go_simp
    try simp only [Act.put, WA, WB, WC]
    refine WV (by rfl) (.bool false) (fun w' hw' => ?_) ?_
    ·have hq' := hw'
     go_simp
    try simp only [Act.put, WA, WB, WC]
    refine WV (by rfl) (.bool false) (fun w' hw' => ?_) ?_
    ·have hq' := hw'
     go_simp
    try simp only [Act.put, WA, WB, WC]
    refine WV (by rfl) (.pointer (some ⟨sh, 1, none⟩)) (fun w' hw' => ?_) ?_
    ·have hq' := hw'
     go_simp
    try simp only [Act.put, WA, WB, WC]
    refine WV (by rfl) (.int .i64 ci) (fun w' hw' => ?_) ?_
    ·have hq' := hw'
     have z0 := kept_cell hw' s0; have z1 := kept_cell hw' s1; have z2 := kept_cell hw' s2; have z3 := kept_cell hw' s3; go_simp
    try simp only [Act.put, WA, WB, WC]
    refine WV (by rfl) (.bool true) (fun w' hw' => ?_) ?_
    ·have hq' := hw'
     go_simp
    try simp only [Act.put, WA, WB, WC]
    refine WV (by rfl) (.pointer (some ⟨tb, 0, none⟩)) (fun w' hw' => ?_) ?_
    ·have hq' := hw'
     go_simp
    try simp only [Act.put, WA, WB, WC]
    refine WV (by rfl) (.int .i64 ((n : Int) + 1)) (fun w' hw' => ?_) ?_
    ·have hq' := hw'
     go_simp
     go_at_call 14
     refine (HHE.out _ hq').mono ?_
     rintro e w6 ⟨he, hb6⟩
     exact ⟨he, hq'.trans (hb6.mono hq'.size)⟩
    try simp only [Act.put, WA, WB, WC]
    refine WV (by rfl) (.bool true) (fun w' hw' => ?_) ?_
    ·have hq' := hw'
     go_simp
    try simp only [Act.put, WA, WB, WC]
    refine WV (by rfl) (.bool false) (fun w' hw' => ?_) ?_
    ·have hq' := hw'
     go_simp
    try simp only [Act.put, WA, WB, WC]
    refine WV (by rfl) (.bool false) (fun w' hw' => ?_) ?_
    ·have hq' := hw'
     go_simp
    try simp only [Act.put, WA, WB, WC]
    refine WV (by rfl) (.bool false) (fun w' hw' => ?_) ?_
    ·have hq' := hw'
     go_simp
    try simp only [Act.put, WA, WB, WC]
    refine WV (by rfl) (.pointer (some ⟨sh, 0, none⟩)) (fun w' hw' => ?_) ?_
    ·have hq' := hw'
     go_simp
    try simp only [Act.put, WA, WB, WC]
    refine WV (by rfl) (.int .i64 cl) (fun w' hw' => ?_) ?_
    ·have hq' := hw'
     have z0 := kept_cell hw' s0; have z1 := kept_cell hw' s1; have z2 := kept_cell hw' s2; have z3 := kept_cell hw' s3; go_simp
    try simp only [Act.put, WA, WB, WC]
    refine WV (by rfl) (.pointer (some ⟨sh, 1, none⟩)) (fun w' hw' => ?_) ?_
    ·have hq' := hw'
     go_simp
    try simp only [Act.put, WA, WB, WC]
    refine WV (by rfl) (.int .i64 ci) (fun w' hw' => ?_) ?_
    ·have hq' := hw'
     have z0 := kept_cell hw' s0; have z1 := kept_cell hw' s1; have z2 := kept_cell hw' s2; have z3 := kept_cell hw' s3; go_simp
    try simp only [Act.put, WA, WB, WC]
    refine WV (by rfl) (.int .i64 ((cl : Int) + ci)) (fun w' hw' => ?_) ?_
    ·have hq' := hw'
     go_simp
    try simp only [Act.put, WA, WB, WC]
    refine WV (by rfl) (.int .i64 ((cl : Int) + ci - 1)) (fun w' hw' => ?_) ?_
    ·have hq' := hw'
     go_simp
    try simp only [Act.put, WA, WB, WC]
    refine WV (by rfl) (.pointer (some ⟨sh, 1, none⟩)) (fun w' hw' => ?_) ?_
    ·have hq' := hw'
     go_simp
    try simp only [Act.put, WA, WB, WC]
    refine WV (by rfl) (.int .i64 ci) (fun w' hw' => ?_) ?_
    ·have hq' := hw'
     have z0 := kept_cell hw' s0; have z1 := kept_cell hw' s1; have z2 := kept_cell hw' s2; have z3 := kept_cell hw' s3; go_simp
    try simp only [Act.put, WA, WB, WC]
    refine WV (by rfl) (.int .i64 (bmax 1 ci)) (fun w' hw' => ?_) ?_
    ·have hq' := hw'
     go_simp
    try simp only [Act.put, WA, WB, WC]
    refine WV (by rfl) (.int .i64 (3 * bmax 1 ci)) (fun w' hw' => ?_) ?_
    ·have hq' := hw'
     go_simp
    try simp only [Act.put, WA, WB, WC]
    refine WV (by rfl) (.bool false) (fun w' hw' => ?_) ?_
    ·have hq' := hw'
     go_simp
    try simp only [Act.put, WA, WB, WC]
    refine WV (by rfl) (.bool false) (fun w' hw' => ?_) ?_
    ·have hq' := hw'
     go_simp
    try simp only [Act.put, WA, WB, WC]
    refine WS (by rfl) ?_
    try simp only [Act.put, WA, WB, WC]
    refine WS (by rfl) ?_
    try simp only [Act.put, WA, WB, WC]
    refine WS (by rfl) ?_
    try simp only [Act.put, WA, WB, WC]
    refine WV (by rfl) (.bool false) (fun w' hw' => ?_) ?_
    ·have hq' := hw'
     go_simp
    try simp only [Act.put, WA, WB, WC]
    refine WV (by rfl) (.bool false) (fun w' hw' => ?_) ?_
    ·have hq' := hw'
     go_simp
    try simp only [Act.put, WA, WB, WC]
    refine WV (by rfl) (.bool false) (fun w' hw' => ?_) ?_
    ·have hq' := hw'
     go_simp
    try simp only [Act.put, WA, WB, WC]
    refine WV (by rfl) (.pointer (some ⟨sh, 1, none⟩)) (fun w' hw' => ?_) ?_
    ·have hq' := hw'
     go_simp
    try simp only [Act.put, WA, WB, WC]
    refine WV (by rfl) (.int .i64 ci) (fun w' hw' => ?_) ?_
    ·have hq' := hw'
     have z0 := kept_cell hw' s0; have z1 := kept_cell hw' s1; have z2 := kept_cell hw' s2; have z3 := kept_cell hw' s3; go_simp
    try simp only [Act.put, WA, WB, WC]
    refine WV (by rfl) (.bool true) (fun w' hw' => ?_) ?_
    ·have hq' := hw'
     go_simp
    try simp only [Act.put, WA, WB, WC]
    refine WV (by rfl) (.bool true) (fun w' hw' => ?_) ?_
    ·have hq' := hw'
     go_simp
    try simp only [Act.put, WA, WB, WC]
    refine WV (by rfl) (.pointer (some ⟨sh, 0, none⟩)) (fun w' hw' => ?_) ?_
    ·have hq' := hw'
     go_simp
    try simp only [Act.put, WA, WB, WC]
    refine WV (by rfl) (.int .i64 cl) (fun w' hw' => ?_) ?_
    ·have hq' := hw'
     have z0 := kept_cell hw' s0; have z1 := kept_cell hw' s1; have z2 := kept_cell hw' s2; have z3 := kept_cell hw' s3; go_simp
    try simp only [Act.put, WA, WB, WC]
    refine WV (by rfl) (.bool false) (fun w' hw' => ?_) ?_
    ·have hq' := hw'
     go_simp
    try simp only [Act.put, WA, WB, WC]
    refine WV (by rfl) (.bool false) (fun w' hw' => ?_) ?_
    ·have hq' := hw'
     go_simp
    try simp only [Act.put, WA, WB, WC]
    refine WV (by rfl) (.bool false) (fun w' hw' => ?_) ?_
    ·have hq' := hw'
     go_simp
    try simp only [Act.put, WA, WB, WC]
    refine WV (by rfl) (.bool false) (fun w' hw' => ?_) ?_
    ·have hq' := hw'
     go_simp
    try simp only [Act.put, WA, WB, WC]
    refine WV (by rfl) (.pointer (some ⟨sh, 3, none⟩)) (fun w' hw' => ?_) ?_
    ·have hq' := hw'
     go_simp
    try simp only [Act.put, WA, WB, WC]
    refine WV (by rfl) (.int .i64 cw) (fun w' hw' => ?_) ?_
    ·have hq' := hw'
     have z0 := kept_cell hw' s0; have z1 := kept_cell hw' s1; have z2 := kept_cell hw' s2; have z3 := kept_cell hw' s3; go_simp
    try simp only [Act.put, WA, WB, WC]
    refine WV (by rfl) (.pointer (some ⟨sh, 1, none⟩)) (fun w' hw' => ?_) ?_
    ·have hq' := hw'
     go_simp
    try simp only [Act.put, WA, WB, WC]
    refine WV (by rfl) (.int .i64 ci) (fun w' hw' => ?_) ?_
    ·have hq' := hw'
     have z0 := kept_cell hw' s0; have z1 := kept_cell hw' s1; have z2 := kept_cell hw' s2; have z3 := kept_cell hw' s3; go_simp
    try simp only [Act.put, WA, WB, WC]
    refine WV (by rfl) (.int .i64 (4 * (ci : Int))) (fun w' hw' => ?_) ?_
    ·have hq' := hw'
     go_simp
    try simp only [Act.put, WA, WB, WC]
    refine WV (by rfl) (.bool false) (fun w' hw' => ?_) ?_
    ·have hq' := hw'
     go_simp
    try simp only [Act.put, WA, WB, WC]
    refine WV (by rfl) (.bool false) (fun w' hw' => ?_) ?_
    ·have hq' := hw'
     go_simp
    try simp only [Act.put, WA, WB, WC]
    refine WV (by rfl) (.bool false) (fun w' hw' => ?_) ?_
    ·have hq' := hw'
     go_simp
    try simp only [Act.put, WA, WB, WC]
    refine WV (by rfl) (.pointer (some ⟨sh, 2, none⟩)) (fun w' hw' => ?_) ?_
    ·have hq' := hw'
     go_simp
    try simp only [Act.put, WA, WB, WC]
    refine WV (by rfl) (.int .i64 ce) (fun w' hw' => ?_) ?_
    ·have hq' := hw'
     have z0 := kept_cell hw' s0; have z1 := kept_cell hw' s1; have z2 := kept_cell hw' s2; have z3 := kept_cell hw' s3; go_simp
    try simp only [Act.put, WA, WB, WC]
    refine WV (by rfl) (.pointer (some ⟨sh, 0, none⟩)) (fun w' hw' => ?_) ?_
    ·have hq' := hw'
     go_simp
    try simp only [Act.put, WA, WB, WC]
    refine WV (by rfl) (.int .i64 cl) (fun w' hw' => ?_) ?_
    ·have hq' := hw'
     have z0 := kept_cell hw' s0; have z1 := kept_cell hw' s1; have z2 := kept_cell hw' s2; have z3 := kept_cell hw' s3; go_simp
    try simp only [Act.put, WA, WB, WC]
    refine WV (by rfl) (.int .i64 (3 * (cl : Int))) (fun w' hw' => ?_) ?_
    ·have hq' := hw'
     go_simp
    try simp only [Act.put, WA, WB, WC]
    refine WV (by rfl) (.bool false) (fun w' hw' => ?_) ?_
    ·have hq' := hw'
     go_simp
    try simp only [Act.put, WA, WB, WC]
    refine WV (by rfl) (.bool false) (fun w' hw' => ?_) ?_
    ·have hq' := hw'
     go_simp
    try simp only [Act.put, WA, WB, WC]
    refine WV (by rfl) (.bool false) (fun w' hw' => ?_) ?_
    ·have hq' := hw'
     go_simp
    try simp only [Act.put, WA, WB, WC]
    refine WV (by rfl) (.slice oa len oc) (fun w' hw' => ?_) ?_
    ·have hq' := hw'
     go_simp
    try simp only [Act.put, WA, WB, WC]
    refine WV (by rfl) (.int .i64 len) (fun w' hw' => ?_) ?_
    ·have hq' := hw'
     go_simp
    try simp only [Act.put, WA, WB, WC]
    refine WV (by rfl) (.pointer (some ⟨sh, 2, none⟩)) (fun w' hw' => ?_) ?_
    ·have hq' := hw'
     go_simp
    try simp only [Act.put, WA, WB, WC]
    refine WV (by rfl) (.int .i64 ce) (fun w' hw' => ?_) ?_
    ·have hq' := hw'
     have z0 := kept_cell hw' s0; have z1 := kept_cell hw' s1; have z2 := kept_cell hw' s2; have z3 := kept_cell hw' s3; go_simp
    try simp only [Act.put, WA, WB, WC]
    refine WV (by rfl) (.pointer (some ⟨sh, 3, none⟩)) (fun w' hw' => ?_) ?_
    ·have hq' := hw'
     go_simp
    try simp only [Act.put, WA, WB, WC]
    refine WV (by rfl) (.int .i64 cw) (fun w' hw' => ?_) ?_
    ·have hq' := hw'
     have z0 := kept_cell hw' s0; have z1 := kept_cell hw' s1; have z2 := kept_cell hw' s2; have z3 := kept_cell hw' s3; go_simp
    try simp only [Act.put, WA, WB, WC]
    refine WV (by rfl) (.int .i64 ((ce : Int) + cw)) (fun w' hw' => ?_) ?_
    ·have hq' := hw'
     go_simp
    try simp only [Act.put, WA, WB, WC]
    refine WV (by rfl) (.bool false) (fun w' hw' => ?_) ?_
    ·have hq' := hw'
     go_simp
    try simp only [Act.put, WA, WB, WC]
    refine WV (by rfl) (.bool false) (fun w' hw' => ?_) ?_
    ·have hq' := hw'
     go_simp
    try simp only [Act.put, WA, WB, WC]
    refine WQ.done ?_
    rintro w11 hX11
    have HX11 := Lib.hid hX11
    clear hX11 s0 s1 s2 s3
    go_wp2_with fail
    exact ⟨⟨j + 1, by go_num, by omega, Lib.hid (HJ10.out.on HX11.out)⟩, by simp [intOf]; omega⟩
   ·have z3 := g3 hn0
    have d72 : ((ci : Int) == 0) = false := by simp; omega
    have d75 : (((n : Int) + 1) == 1) = false := by simp; omega
    clear z3 g1 g2 g3 g4 g5 g6 g7 g8 g9 hn0
    refine WQ.region (C := fun w' => Below w10.heap.size w10 w') (by kernel_rfl) (by kernel_rfl) (below_drew' (Below.refl _ _)) ?_
    refine WV (by rfl) (.int .i64 0) (fun w' hw' => ?_) ?_
    ·have hq' := hw'
     go_simp
    try simp only [Act.put, WA, WB, WC]
    refine WV (by rfl) (.bool false) (fun w' hw' => ?_) ?_
    ·have hq' := hw'
     go_simp
    try simp only [Act.put, WA, WB, WC]
    refine WV (by rfl) (.bool false) (fun w' hw' => ?_) ?_
    ·have hq' := hw'
     go_simp
    try simp only [Act.put, WA, WB, WC]
    refine WV (by rfl) (.int .i64 0) (fun w' hw' => ?_) ?_
    ·have hq' := hw'
     go_simp
    try simp only [Act.put, WA, WB, WC]
    refine WV (by rfl) (.bool false) (fun w' hw' => ?_) ?_
    ·have hq' := hw'
     go_simp
    try simp only [Act.put, WA, WB, WC]
    refine WV (by rfl) (.bool false) (fun w' hw' => ?_) ?_
    ·have hq' := hw'
     go_simp
    try simp only [Act.put, WA, WB, WC]
    refine WV (by rfl) (.bool false) (fun w' hw' => ?_) ?_
    ·have hq' := hw'
     go_simp
    try simp only [Act.put, WA, WB, WC]
    refine WV (by rfl) (.pointer (some ⟨sh, 0, none⟩)) (fun w' hw' => ?_) ?_
    ·have hq' := hw'
     go_simp
    try simp only [Act.put, WA, WB, WC]
    refine WV (by rfl) (.int .i64 cl) (fun w' hw' => ?_) ?_
    ·have hq' := hw'
     have z0 := kept_cell hw' s0; have z1 := kept_cell hw' s1; have z2 := kept_cell hw' s2; have z3 := kept_cell hw' s3; go_simp
    try simp only [Act.put, WA, WB, WC]
    refine WV (by rfl) (.bool false) (fun w' hw' => ?_) ?_
    ·have hq' := hw'
     go_simp
    try simp only [Act.put, WA, WB, WC]
    refine WV (by rfl) (.bool false) (fun w' hw' => ?_) ?_
    ·have hq' := hw'
     go_simp
    try simp only [Act.put, WA, WB, WC]
    refine WV (by rfl) (.bool false) (fun w' hw' => ?_) ?_
    ·have hq' := hw'
     go_simp
    try simp only [Act.put, WA, WB, WC]
    refine WV (by rfl) (.pointer (some ⟨sh, 1, none⟩)) (fun w' hw' => ?_) ?_
    ·have hq' := hw'
     go_simp
    try simp only [Act.put, WA, WB, WC]
    refine WV (by rfl) (.int .i64 ci) (fun w' hw' => ?_) ?_
    ·have hq' := hw'
     have z0 := kept_cell hw' s0; have z1 := kept_cell hw' s1; have z2 := kept_cell hw' s2; have z3 := kept_cell hw' s3; go_simp
    try simp only [Act.put, WA, WB, WC]
    refine WV (by rfl) (.bool false) (fun w' hw' => ?_) ?_
    ·have hq' := hw'
     go_simp
    try simp only [Act.put, WA, WB, WC]
    refine WV (by rfl) (.pointer (some ⟨tb, 0, none⟩)) (fun w' hw' => ?_) ?_
    ·have hq' := hw'
     go_simp
    try simp only [Act.put, WA, WB, WC]
    refine WV (by rfl) (.int .i64 ((n : Int) + 1)) (fun w' hw' => ?_) ?_
    ·have hq' := hw'
     go_simp
     go_at_call 14
     refine (HHE.out _ hq').mono ?_
     rintro e w6 ⟨he, hb6⟩
     exact ⟨he, hq'.trans (hb6.mono hq'.size)⟩
    try simp only [Act.put, WA, WB, WC]
    refine WV (by rfl) (.bool false) (fun w' hw' => ?_) ?_
    ·have hq' := hw'
     go_simp
    try simp only [Act.put, WA, WB, WC]
    refine WV (by rfl) (.bool false) (fun w' hw' => ?_) ?_
    ·have hq' := hw'
     go_simp
    try simp only [Act.put, WA, WB, WC]
    refine WV (by rfl) (.bool false) (fun w' hw' => ?_) ?_
    ·have hq' := hw'
     go_simp
    try simp only [Act.put, WA, WB, WC]
    refine WV (by rfl) (.bool false) (fun w' hw' => ?_) ?_
    ·have hq' := hw'
     go_simp
    try simp only [Act.put, WA, WB, WC]
    refine WV (by rfl) (.pointer (some ⟨sh, 0, none⟩)) (fun w' hw' => ?_) ?_
    ·have hq' := hw'
     go_simp
    try simp only [Act.put, WA, WB, WC]
    refine WV (by rfl) (.int .i64 cl) (fun w' hw' => ?_) ?_
    ·have hq' := hw'
     have z0 := kept_cell hw' s0; have z1 := kept_cell hw' s1; have z2 := kept_cell hw' s2; have z3 := kept_cell hw' s3; go_simp
    try simp only [Act.put, WA, WB, WC]
    refine WV (by rfl) (.pointer (some ⟨sh, 1, none⟩)) (fun w' hw' => ?_) ?_
    ·have hq' := hw'
     go_simp
    try simp only [Act.put, WA, WB, WC]
    refine WV (by rfl) (.int .i64 ci) (fun w' hw' => ?_) ?_
    ·have hq' := hw'
     have z0 := kept_cell hw' s0; have z1 := kept_cell hw' s1; have z2 := kept_cell hw' s2; have z3 := kept_cell hw' s3; go_simp
    try simp only [Act.put, WA, WB, WC]
    refine WV (by rfl) (.int .i64 ((cl : Int) + ci)) (fun w' hw' => ?_) ?_
    ·have hq' := hw'
     go_simp
    try simp only [Act.put, WA, WB, WC]
    refine WV (by rfl) (.int .i64 ((cl : Int) + ci - 1)) (fun w' hw' => ?_) ?_
    ·have hq' := hw'
     go_simp
    try simp only [Act.put, WA, WB, WC]
    refine WV (by rfl) (.pointer (some ⟨sh, 1, none⟩)) (fun w' hw' => ?_) ?_
    ·have hq' := hw'
     go_simp
    try simp only [Act.put, WA, WB, WC]
    refine WV (by rfl) (.int .i64 ci) (fun w' hw' => ?_) ?_
    ·have hq' := hw'
     have z0 := kept_cell hw' s0; have z1 := kept_cell hw' s1; have z2 := kept_cell hw' s2; have z3 := kept_cell hw' s3; go_simp
    try simp only [Act.put, WA, WB, WC]
    refine WV (by rfl) (.int .i64 (bmax 1 ci)) (fun w' hw' => ?_) ?_
    ·have hq' := hw'
     go_simp
    try simp only [Act.put, WA, WB, WC]
    refine WV (by rfl) (.int .i64 (3 * bmax 1 ci)) (fun w' hw' => ?_) ?_
    ·have hq' := hw'
     go_simp
    try simp only [Act.put, WA, WB, WC]
    refine WV (by rfl) (.bool false) (fun w' hw' => ?_) ?_
    ·have hq' := hw'
     go_simp
    try simp only [Act.put, WA, WB, WC]
    refine WV (by rfl) (.bool false) (fun w' hw' => ?_) ?_
    ·have hq' := hw'
     go_simp
    try simp only [Act.put, WA, WB, WC]
    refine WS (by rfl) ?_
    try simp only [Act.put, WA, WB, WC]
    refine WS (by rfl) ?_
    try simp only [Act.put, WA, WB, WC]
    refine WS (by rfl) ?_
    try simp only [Act.put, WA, WB, WC]
    refine WV (by rfl) (.bool false) (fun w' hw' => ?_) ?_
    ·have hq' := hw'
     go_simp
    try simp only [Act.put, WA, WB, WC]
    refine WV (by rfl) (.bool false) (fun w' hw' => ?_) ?_
    ·have hq' := hw'
     go_simp
    try simp only [Act.put, WA, WB, WC]
    refine WV (by rfl) (.bool false) (fun w' hw' => ?_) ?_
    ·have hq' := hw'
     go_simp
    try simp only [Act.put, WA, WB, WC]
    refine WV (by rfl) (.pointer (some ⟨sh, 1, none⟩)) (fun w' hw' => ?_) ?_
    ·have hq' := hw'
     go_simp
    try simp only [Act.put, WA, WB, WC]
    refine WV (by rfl) (.int .i64 ci) (fun w' hw' => ?_) ?_
    ·have hq' := hw'
     have z0 := kept_cell hw' s0; have z1 := kept_cell hw' s1; have z2 := kept_cell hw' s2; have z3 := kept_cell hw' s3; go_simp
    try simp only [Act.put, WA, WB, WC]
    refine WV (by rfl) (.bool false) (fun w' hw' => ?_) ?_
    ·have hq' := hw'
     go_simp
    try simp only [Act.put, WA, WB, WC]
    refine WV (by rfl) (.bool false) (fun w' hw' => ?_) ?_
    ·have hq' := hw'
     go_simp
    try simp only [Act.put, WA, WB, WC]
    refine WS (by rfl) ?_
    try simp only [Act.put, WA, WB, WC]
    refine WS (by rfl) ?_
    try simp only [Act.put, WA, WB, WC]
    refine WS (by rfl) ?_
    try simp only [Act.put, WA, WB, WC]
    refine WV (by rfl) (.bool false) (fun w' hw' => ?_) ?_
    ·have hq' := hw'
     go_simp
    try simp only [Act.put, WA, WB, WC]
    refine WV (by rfl) (.bool false) (fun w' hw' => ?_) ?_
    ·have hq' := hw'
     go_simp
    try simp only [Act.put, WA, WB, WC]
    refine WV (by rfl) (.bool false) (fun w' hw' => ?_) ?_
    ·have hq' := hw'
     go_simp
    try simp only [Act.put, WA, WB, WC]
    refine WV (by rfl) (.pointer (some ⟨sh, 3, none⟩)) (fun w' hw' => ?_) ?_
    ·have hq' := hw'
     go_simp
    try simp only [Act.put, WA, WB, WC]
    refine WV (by rfl) (.int .i64 cw) (fun w' hw' => ?_) ?_
    ·have hq' := hw'
     have z0 := kept_cell hw' s0; have z1 := kept_cell hw' s1; have z2 := kept_cell hw' s2; have z3 := kept_cell hw' s3; go_simp
    try simp only [Act.put, WA, WB, WC]
    refine WV (by rfl) (.pointer (some ⟨sh, 1, none⟩)) (fun w' hw' => ?_) ?_
    ·have hq' := hw'
     go_simp
    try simp only [Act.put, WA, WB, WC]
    refine WV (by rfl) (.int .i64 ci) (fun w' hw' => ?_) ?_
    ·have hq' := hw'
     have z0 := kept_cell hw' s0; have z1 := kept_cell hw' s1; have z2 := kept_cell hw' s2; have z3 := kept_cell hw' s3; go_simp
    try simp only [Act.put, WA, WB, WC]
    refine WV (by rfl) (.int .i64 (4 * (ci : Int))) (fun w' hw' => ?_) ?_
    ·have hq' := hw'
     go_simp
    try simp only [Act.put, WA, WB, WC]
    refine WV (by rfl) (.bool false) (fun w' hw' => ?_) ?_
    ·have hq' := hw'
     go_simp
    try simp only [Act.put, WA, WB, WC]
    refine WV (by rfl) (.bool false) (fun w' hw' => ?_) ?_
    ·have hq' := hw'
     go_simp
    try simp only [Act.put, WA, WB, WC]
    refine WV (by rfl) (.bool false) (fun w' hw' => ?_) ?_
    ·have hq' := hw'
     go_simp
    try simp only [Act.put, WA, WB, WC]
    refine WV (by rfl) (.pointer (some ⟨sh, 2, none⟩)) (fun w' hw' => ?_) ?_
    ·have hq' := hw'
     go_simp
    try simp only [Act.put, WA, WB, WC]
    refine WV (by rfl) (.int .i64 ce) (fun w' hw' => ?_) ?_
    ·have hq' := hw'
     have z0 := kept_cell hw' s0; have z1 := kept_cell hw' s1; have z2 := kept_cell hw' s2; have z3 := kept_cell hw' s3; go_simp
    try simp only [Act.put, WA, WB, WC]
    refine WV (by rfl) (.pointer (some ⟨sh, 0, none⟩)) (fun w' hw' => ?_) ?_
    ·have hq' := hw'
     go_simp
    try simp only [Act.put, WA, WB, WC]
    refine WV (by rfl) (.int .i64 cl) (fun w' hw' => ?_) ?_
    ·have hq' := hw'
     have z0 := kept_cell hw' s0; have z1 := kept_cell hw' s1; have z2 := kept_cell hw' s2; have z3 := kept_cell hw' s3; go_simp
    try simp only [Act.put, WA, WB, WC]
    refine WV (by rfl) (.int .i64 (3 * (cl : Int))) (fun w' hw' => ?_) ?_
    ·have hq' := hw'
     go_simp
    try simp only [Act.put, WA, WB, WC]
    refine WV (by rfl) (.bool false) (fun w' hw' => ?_) ?_
    ·have hq' := hw'
     go_simp
    try simp only [Act.put, WA, WB, WC]
    refine WV (by rfl) (.bool false) (fun w' hw' => ?_) ?_
    ·have hq' := hw'
     go_simp
    try simp only [Act.put, WA, WB, WC]
    refine WV (by rfl) (.bool false) (fun w' hw' => ?_) ?_
    ·have hq' := hw'
     go_simp
    try simp only [Act.put, WA, WB, WC]
    refine WV (by rfl) (.slice oa len oc) (fun w' hw' => ?_) ?_
    ·have hq' := hw'
     go_simp
    try simp only [Act.put, WA, WB, WC]
    refine WV (by rfl) (.int .i64 len) (fun w' hw' => ?_) ?_
    ·have hq' := hw'
     go_simp
    try simp only [Act.put, WA, WB, WC]
    refine WV (by rfl) (.pointer (some ⟨sh, 2, none⟩)) (fun w' hw' => ?_) ?_
    ·have hq' := hw'
     go_simp
    try simp only [Act.put, WA, WB, WC]
    refine WV (by rfl) (.int .i64 ce) (fun w' hw' => ?_) ?_
    ·have hq' := hw'
     have z0 := kept_cell hw' s0; have z1 := kept_cell hw' s1; have z2 := kept_cell hw' s2; have z3 := kept_cell hw' s3; go_simp
    try simp only [Act.put, WA, WB, WC]
    refine WV (by rfl) (.pointer (some ⟨sh, 3, none⟩)) (fun w' hw' => ?_) ?_
    ·have hq' := hw'
     go_simp
    try simp only [Act.put, WA, WB, WC]
    refine WV (by rfl) (.int .i64 cw) (fun w' hw' => ?_) ?_
    ·have hq' := hw'
     have z0 := kept_cell hw' s0; have z1 := kept_cell hw' s1; have z2 := kept_cell hw' s2; have z3 := kept_cell hw' s3; go_simp
    try simp only [Act.put, WA, WB, WC]
    refine WV (by rfl) (.int .i64 ((ce : Int) + cw)) (fun w' hw' => ?_) ?_
    ·have hq' := hw'
     go_simp
    try simp only [Act.put, WA, WB, WC]
    refine WV (by rfl) (.bool false) (fun w' hw' => ?_) ?_
    ·have hq' := hw'
     go_simp
    try simp only [Act.put, WA, WB, WC]
    refine WV (by rfl) (.bool false) (fun w' hw' => ?_) ?_
    ·have hq' := hw'
     go_simp
    try simp only [Act.put, WA, WB, WC]
    refine WQ.done ?_
    rintro w11 hX11
    have HX11 := Lib.hid hX11
    clear hX11 s0 s1 s2 s3
    go_wp2_with fail
    exact ⟨⟨j + 1, by go_num, by omega, Lib.hid (HJ10.out.on HX11.out)⟩, by simp [intOf]; omega⟩
  ·obtain rfl : j = m := by omega
   have HB := Lib.hid HJ.out.below
   go_upto_region 17 with (fail)
   go_wp2_with fail
   refine (shape_nil _).mono ?_
   rintro e w4 ⟨rfl, hX4⟩
   have HB4 := Lib.hid (HB.out.trans (hX4.mono HB.out.size))
   clear hX4
   go_upto_region 18 with (fail)
   obtain ⟨W5, hW5⟩ : ∃ W5, W5 = w4.alloc (.cells #[.int .i64 0, .int .i64 0, .int .i64 0, .int .i64 0] 77) := ⟨_, rfl⟩
   have HB5 := Lib.hid (show Below w.heap.size w W5 by rw [hW5]; exact HB4.out.alloc HB4.out.size _)
   rw [← hW5]
   clear hW5
   go_wp2_with fail
   go_ret
   exact ⟨rfl, HB5.out⟩
end Go.Proofs.YtafciefjlkdecaaGreat
